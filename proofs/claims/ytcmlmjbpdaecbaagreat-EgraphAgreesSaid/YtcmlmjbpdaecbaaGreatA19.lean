/- Graphs (the program): copied. -/
import Derived.Test.YtcmlmjbpdaecbaaGreatA18
set_option linter.unusedVariables false
set_option linter.unusedSimpArgs false
namespace Go.Proofs.YtcmlmjbpdaecbaaGreat
open Go.RowKit Go.MapKept Go.Maps Go.WideMaps
set_option linter.unusedVariables false
set_option linter.unusedSimpArgs false

theorem ivs_one (l : List Nat) : ∀ u ∈ ivs l, u.oneCell' = true := by
  intro u hu
  obtain ⟨c, _, rfl⟩ := List.mem_map.1 hu
  rfl
theorem ints_one (l : List Int) : ∀ u ∈ l.map (Value.int .i64), u.oneCell' = true := by
  intro u hu
  obtain ⟨c, _, rfl⟩ := List.mem_map.1 hu
  rfl
theorem entCs_one (l : List (E.Opn × Nat)) : ∀ u ∈ entCs l, u.oneCell' = true := by
  intro u hu
  unfold entCs at hu
  obtain ⟨e, _, he⟩ := List.mem_flatMap.1 hu
  exact entC_one e u he

/-- the cells of the head, with the widths of the variables -/
def HeadS (b : Nat) (vr : E.Vr) (v1 v2 v3 v4 : Value) (Y : World) : Prop :=
  Y.cell? ⟨b, 0, none⟩ = some v1 ∧ Y.cell? ⟨b, 1, none⟩ = some v2 ∧ Y.cell? ⟨b, 2, none⟩ = some v3 ∧ Y.cell? ⟨b, 4, none⟩ = some v4 ∧ Y.cell? ⟨b, 5, none⟩ = some (.int .i64 vr.a) ∧ Y.cell? ⟨b, 6, none⟩ = some (.int .i64 vr.b) ∧ Y.cell? ⟨b, 7, none⟩ = some (.int .i64 vr.c) ∧ Y.cell? ⟨b, 8, none⟩ = some (.int .i64 vr.d)
theorem GrC.headS {w : World} {b : Nat} {p : List Nat} {wd : List Int} {es kn : List (E.Opn × Nat)} {nm : List Nat} {vr : E.Vr} {v1 v2 v3 v4 : Value} {kb : Nat} (h : GrC w b p wd es kn nm vr v1 v2 v3 v4 kb) : HeadS b vr v1 v2 v3 v4 w := by
  refine ⟨?_, ?_, ?_, ?_, ?_, ?_, ?_, ?_⟩
  all_goals rw [cell_of_row _ _ _ _ _ (0, 0) h.row]; rfl

/-- a graph of its own -/
structure NewGr (W : World) (p : List Nat) (wd : List Int) (es kn : List (E.Opn × Nat)) (nm : List Nat) (vr : E.Vr) (w : World) (gb : Nat) (u1 u2 u3 u4 : Value) (km : Nat) : Prop where
  gr : GrC w gb p wd es kn nm vr u1 u2 u3 u4 km
  bel : Below W.heap.size W w
  new : ∀ i, MG gb u1 u2 u3 u4 km i → W.heap.size ≤ i

theorem newGr_box {W w xb : World} {p : List Nat} {wd : List Int} {es : List (E.Opn × Nat)} {nm : List Nat} {vr : E.Vr} {v1 v2 v3 v4 : Value} {gm : Nat} (o1 : OwnAt w 3 1 v1 p.length (ivs p)) (o2 : OwnAt w 3 1 v2 wd.length (wd.map (.int .i64))) (o3 : OwnAt w 87 7 v3 es.length (entCs es)) (o4 : OwnAt w 3 1 v4 nm.length (ivs nm)) (hm : MapAt Tryz.prog 85 opV NatE w gm [])
    (n1 : ∀ i, v1.ownBlock = some i → W.heap.size ≤ i) (n2 : ∀ i, v2.ownBlock = some i → W.heap.size ≤ i) (n3 : ∀ i, v3.ownBlock = some i → W.heap.size ≤ i) (n4 : ∀ i, v4.ownBlock = some i → W.heap.size ≤ i) (nm' : W.heap.size ≤ gm)
    (d12 : ∀ g, v1.ownBlock = some g → v2.ownBlock ≠ some g) (d14 : ∀ g, v1.ownBlock = some g → v4.ownBlock ≠ some g) (d24 : ∀ g, v2.ownBlock = some g → v4.ownBlock ≠ some g) (hb : Below W.heap.size W w)
    (hx : xb = w.alloc (.cells #[v1, v2, v3, .map (some gm), v4, .int .i64 vr.a, .int .i64 vr.b, .int .i64 vr.c, .int .i64 vr.d] 80)) : NewGr W p wd es [] nm vr xb w.heap.size v1 v2 v3 v4 gm := by
  have hbx : Below w.heap.size w xb := by rw [hx]; exact (Below.refl _ _).alloc (Nat.le_refl _) _
  refine ⟨⟨by rw [hx]; exact heap_alloc_new w _, o1.below hbx o1.lt, o2.below hbx o2.lt, o3.below hbx o3.lt, hm.keep (hbx.block gm hm.lt) (fun _ _ _ h => h), o4.below hbx o4.lt, d12, d14, d24⟩, hb.trans (hbx.mono hb.size), ?_⟩
  rintro i (rfl | rfl | e | e | e | e)
  · exact hb.size
  · exact nm'
  · exact n1 i e
  · exact n2 i e
  · exact n3 i e
  · exact n4 i e
theorem AL_put_new {κ α : Type} [DecidableEq κ] {l : List (κ × α)} {k : κ} {a : α} (h : k ∉ l.map Prod.fst) : AL.put l k a = l ++ [(k, a)] :=
  AL.put_none (fun p hp e => h (List.mem_map.2 ⟨p, hp, e⟩)) a

set_option maxRecDepth 100000 in
set_option maxHeartbeats 4000000 in
theorem gcopied_any {W : World} {b : Nat} {p : List Nat} {wd : List Int} {es : List (E.Opn × Nat)} {nm : List Nat} {vr : E.Vr} {v1 v2 v3 v4 : Value} {kb : Nat} (h : GrC W b p wd es es nm vr v1 v2 v3 v4 kb) (hw : ∀ e ∈ es, OWf e.1) (hn : p.length ≤ 900000) (hwd : wd.length ≤ 900000) (he : es.length ≤ 900000) (hm : nm.length ≤ 900000) :
    Calls Tryz.prog 44 #[.pointer (some ⟨b, 0, none⟩)] W fun e W' => ∃ gb u1 u2 u3 u4 km, e = .returned (.pointer (some ⟨gb, 0, none⟩)) ∧ NewGr W p wd es es nm vr W' gb u1 u2 u3 u4 km := by
  obtain ⟨A1, c1, rfl⟩ := h.o1.form
  obtain ⟨A2, c2, rfl⟩ := h.o2.form
  obtain ⟨A3, c3, rfl⟩ := h.o3.form
  obtain ⟨A4, c4, rfl⟩ := h.o4.form
  have Hnd := Lib.hid (show (es.map Prod.fst).Nodup from by
    obtain ⟨es', clock, _, hs, hl, h4⟩ := h.km
    exact mapAt_nodup hs hl h4)
  have HS := Lib.hid (show ∀ Y, Below W.heap.size W Y → HeadS b vr (.slice A1 p.length c1) (.slice A2 wd.length c2) (.slice A3 es.length c3) (.slice A4 nm.length c4) Y from fun Y hY => (h.below hY).headS)
  have HC1 := Lib.hid (show ∀ X, Below W.heap.size W X → Calls Tryz.prog 92 #[.slice A1 p.length c1] X (Cloned 3 1 X p.length (ivs p)) from fun X hX => by
    obtain ⟨q1, q2, q3⟩ := clone_own (h.below hX).o1
    exact cloneI_any q1 q2 (ivs_one p) q3 (by omega))
  have HC2 := Lib.hid (show ∀ X, Below W.heap.size W X → Calls Tryz.prog 92 #[.slice A2 wd.length c2] X (Cloned 3 1 X wd.length (wd.map (.int .i64))) from fun X hX => by
    obtain ⟨q1, q2, q3⟩ := clone_own (h.below hX).o2
    exact cloneI_any q1 q2 (ints_one wd) q3 (by omega))
  have HC3 := Lib.hid (show ∀ X, Below W.heap.size W X → Calls Tryz.prog 93 #[.slice A3 es.length c3] X (Cloned 87 7 X es.length (entCs es)) from fun X hX => by
    obtain ⟨q1, q2, q3⟩ := clone_own (h.below hX).o3
    exact cloneE_any q1 q2 (entCs_one es) q3 (by omega))
  have HC4 := Lib.hid (show ∀ X, Below W.heap.size W X → Calls Tryz.prog 92 #[.slice A4 nm.length c4] X (Cloned 3 1 X nm.length (ivs nm)) from fun X hX => by
    obtain ⟨q1, q2, q3⟩ := clone_own (h.below hX).o4
    exact cloneI_any q1 q2 (ivs_one nm) q3 (by omega))
  have hmk := fun W => run_makeMap_any (P := Tryz.prog) Tryz.underlying77 W
  have Hw := Lib.hid hw
  have Hb0 := Lib.hid (show Below W.heap.size W W.drew from (Below.refl _ _).drew)
  have Hbr := Lib.hid (Below.refl W.heap.size W)
  clear h hw
  go_enter Tryz.func44, Tryz.ntmps44
  go_upto_region 1 with (fail)
  go_cut [3] (fun s3 wx => ∃ (gb : Nat) (u1 u2 u3 u4 : Value) (km : Nat), s3 = .pointer (some ⟨gb, 0, none⟩) ∧ Hid (NewGr W p wd es [] nm vr wx gb u1 u2 u3 u4 km))
  case first =>
    refine wp_region_held_drew (S := HeadS b vr (.slice A1 p.length c1) (.slice A2 wd.length c2) (.slice A3 es.length c3) (.slice A4 nm.length c4)) (by kernel_rfl) (HS.out W.drew Hb0.out) (fun hHeld => ?_)
    refine wpAnyH_take (i := 0) (oi := _) (v := ?_) rfl (by kernel_rfl) (by kernel_rfl) (by kernel_rfl) (fun _ _ _ h => h) (Or.inl ⟨by rfl, fun Y hY => ?_⟩) hHeld ?_
    rotate_left
    · (go_simp) <;> with_reducible rfl
    try simp only [Act.put, List.setIfInBounds_toArray, List.set_cons_zero, List.set_cons_succ, List.getElem_toArray, List.getElem_cons_succ, List.getElem_cons_zero]
    refine wpAnyH_take (i := 1) (oi := _) (v := ?_) rfl (by kernel_rfl) (by kernel_rfl) (by kernel_rfl) (fun _ _ _ h => h) (Or.inl ⟨by rfl, fun Y hY => ?_⟩) hHeld ?_
    rotate_left
    · (go_simp) <;> with_reducible rfl
    try simp only [Act.put, List.setIfInBounds_toArray, List.set_cons_zero, List.set_cons_succ, List.getElem_toArray, List.getElem_cons_succ, List.getElem_cons_zero]
    refine wpAnyH_take (i := 2) (oi := _) (v := ?_) rfl (by kernel_rfl) (by kernel_rfl) (by kernel_rfl) (fun _ _ _ h => h) (Or.inl ⟨by rfl, fun Y hY => ?_⟩) hHeld ?_
    rotate_left
    · (go_simp) <;> with_reducible rfl
    try simp only [Act.put, List.setIfInBounds_toArray, List.set_cons_zero, List.set_cons_succ, List.getElem_toArray, List.getElem_cons_succ, List.getElem_cons_zero]
    refine wpAnyH_take (i := 3) (oi := _) (v := ?_) rfl (by kernel_rfl) (by kernel_rfl) (by kernel_rfl) (fun _ _ _ h => h) (Or.inl ⟨by rfl, fun Y hY => ?_⟩) hHeld ?_
    rotate_left
    · obtain ⟨y0, y1, y2, y3, y4, y5, y6, y7⟩ := hY
      (go_simp) <;> with_reducible rfl
    try simp only [Act.put, List.setIfInBounds_toArray, List.set_cons_zero, List.set_cons_succ, List.getElem_toArray, List.getElem_cons_succ, List.getElem_cons_zero]
    refine wpAnyH_take (i := 5) (oi := _) (v := ?_) rfl (by kernel_rfl) (by kernel_rfl) (by kernel_rfl) (fun _ _ _ h => h) (Or.inl ⟨by rfl, fun Y hY => ?_⟩) hHeld ?_
    rotate_left
    · (go_simp) <;> with_reducible rfl
    try simp only [Act.put, List.setIfInBounds_toArray, List.set_cons_zero, List.set_cons_succ, List.getElem_toArray, List.getElem_cons_succ, List.getElem_cons_zero]
    refine wpAnyH_take (i := 6) (oi := _) (v := ?_) rfl (by kernel_rfl) (by kernel_rfl) (by kernel_rfl) (fun _ _ _ h => h) (Or.inl ⟨by rfl, fun Y hY => ?_⟩) hHeld ?_
    rotate_left
    · (go_simp) <;> with_reducible rfl
    try simp only [Act.put, List.setIfInBounds_toArray, List.set_cons_zero, List.set_cons_succ, List.getElem_toArray, List.getElem_cons_succ, List.getElem_cons_zero]
    refine wpAnyH_take (i := 7) (oi := _) (v := ?_) rfl (by kernel_rfl) (by kernel_rfl) (by kernel_rfl) (fun _ _ _ h => h) (Or.inl ⟨by rfl, fun Y hY => ?_⟩) hHeld ?_
    rotate_left
    · (go_simp) <;> with_reducible rfl
    try simp only [Act.put, List.setIfInBounds_toArray, List.set_cons_zero, List.set_cons_succ, List.getElem_toArray, List.getElem_cons_succ, List.getElem_cons_zero]
    refine wpAnyH_take (i := 8) (oi := _) (v := ?_) rfl (by kernel_rfl) (by kernel_rfl) (by kernel_rfl) (fun _ _ _ h => h) (Or.inl ⟨by rfl, fun Y hY => ?_⟩) hHeld ?_
    rotate_left
    · obtain ⟨y0, y1, y2, y3, y4, y5, y6, y7⟩ := hY
      (go_simp) <;> with_reducible rfl
    try simp only [Act.put, List.setIfInBounds_toArray, List.set_cons_zero, List.set_cons_succ, List.getElem_toArray, List.getElem_cons_succ, List.getElem_cons_zero]
    refine wpAnyH_take (i := 10) (oi := _) (v := ?_) rfl (by kernel_rfl) (by kernel_rfl) (by kernel_rfl) (fun _ _ _ h => h) (Or.inl ⟨by rfl, fun Y hY => ?_⟩) hHeld ?_
    rotate_left
    · (go_simp) <;> with_reducible rfl
    try simp only [Act.put, List.setIfInBounds_toArray, List.set_cons_zero, List.set_cons_succ, List.getElem_toArray, List.getElem_cons_succ, List.getElem_cons_zero]
    refine wpAnyH_take (i := 11) (oi := _) (v := ?_) rfl (by kernel_rfl) (by kernel_rfl) (by kernel_rfl) (fun _ _ _ h => h) (Or.inl ⟨by rfl, fun Y hY => ?_⟩) hHeld ?_
    rotate_left
    · (go_simp) <;> with_reducible rfl
    try simp only [Act.put, List.setIfInBounds_toArray, List.set_cons_zero, List.set_cons_succ, List.getElem_toArray, List.getElem_cons_succ, List.getElem_cons_zero]
    refine wpAnyH_take (i := 12) (oi := _) (v := ?_) rfl (by kernel_rfl) (by kernel_rfl) (by kernel_rfl) (fun _ _ _ h => h) (Or.inl ⟨by rfl, fun Y hY => ?_⟩) hHeld ?_
    rotate_left
    · (go_simp) <;> with_reducible rfl
    try simp only [Act.put, List.setIfInBounds_toArray, List.set_cons_zero, List.set_cons_succ, List.getElem_toArray, List.getElem_cons_succ, List.getElem_cons_zero]
    refine wpAnyH_take (i := 13) (oi := _) (v := ?_) rfl (by kernel_rfl) (by kernel_rfl) (by kernel_rfl) (fun _ _ _ h => h) (Or.inl ⟨by rfl, fun Y hY => ?_⟩) hHeld ?_
    rotate_left
    · obtain ⟨y0, y1, y2, y3, y4, y5, y6, y7⟩ := hY
      (go_simp) <;> with_reducible rfl
    try simp only [Act.put, List.setIfInBounds_toArray, List.set_cons_zero, List.set_cons_succ, List.getElem_toArray, List.getElem_cons_succ, List.getElem_cons_zero]
    refine wpAnyH_take (i := 16) (oi := _) (v := ?_) rfl (by kernel_rfl) (by kernel_rfl) (by kernel_rfl) (fun _ _ _ h => h) (Or.inl ⟨by rfl, fun Y hY => ?_⟩) hHeld ?_
    rotate_left
    · (go_simp) <;> with_reducible rfl
    try simp only [Act.put, List.setIfInBounds_toArray, List.set_cons_zero, List.set_cons_succ, List.getElem_toArray, List.getElem_cons_succ, List.getElem_cons_zero]
    refine wpAnyH_take (i := 17) (oi := _) (v := ?_) rfl (by kernel_rfl) (by kernel_rfl) (by kernel_rfl) (fun _ _ _ h => h) (Or.inl ⟨by rfl, fun Y hY => ?_⟩) hHeld ?_
    rotate_left
    · (go_simp) <;> with_reducible rfl
    try simp only [Act.put, List.setIfInBounds_toArray, List.set_cons_zero, List.set_cons_succ, List.getElem_toArray, List.getElem_cons_succ, List.getElem_cons_zero]
    refine wpAnyH_take (i := 18) (oi := _) (v := ?_) rfl (by kernel_rfl) (by kernel_rfl) (by kernel_rfl) (fun _ _ _ h => h) (Or.inl ⟨by rfl, fun Y hY => ?_⟩) hHeld ?_
    rotate_left
    · (go_simp) <;> with_reducible rfl
    try simp only [Act.put, List.setIfInBounds_toArray, List.set_cons_zero, List.set_cons_succ, List.getElem_toArray, List.getElem_cons_succ, List.getElem_cons_zero]
    refine wpAnyH_take (i := 19) (oi := _) (v := ?_) rfl (by kernel_rfl) (by kernel_rfl) (by kernel_rfl) (fun _ _ _ h => h) (Or.inl ⟨by rfl, fun Y hY => ?_⟩) hHeld ?_
    rotate_left
    · obtain ⟨y0, y1, y2, y3, y4, y5, y6, y7⟩ := hY
      (go_simp) <;> with_reducible rfl
    try simp only [Act.put, List.setIfInBounds_toArray, List.set_cons_zero, List.set_cons_succ, List.getElem_toArray, List.getElem_cons_succ, List.getElem_cons_zero]
    refine wpAnyH_take (i := 21) (oi := _) (v := ?_) rfl (by kernel_rfl) (by kernel_rfl) (by kernel_rfl) (fun _ _ _ h => h) (Or.inl ⟨by rfl, fun Y hY => ?_⟩) hHeld ?_
    rotate_left
    · (go_simp) <;> with_reducible rfl
    try simp only [Act.put, List.setIfInBounds_toArray, List.set_cons_zero, List.set_cons_succ, List.getElem_toArray, List.getElem_cons_succ, List.getElem_cons_zero]
    refine wpAnyH_take (i := 22) (oi := _) (v := ?_) rfl (by kernel_rfl) (by kernel_rfl) (by kernel_rfl) (fun _ _ _ h => h) (Or.inl ⟨by rfl, fun Y hY => ?_⟩) hHeld ?_
    rotate_left
    · (go_simp) <;> with_reducible rfl
    try simp only [Act.put, List.setIfInBounds_toArray, List.set_cons_zero, List.set_cons_succ, List.getElem_toArray, List.getElem_cons_succ, List.getElem_cons_zero]
    refine wpAnyH_take (i := 23) (oi := _) (v := ?_) rfl (by kernel_rfl) (by kernel_rfl) (by kernel_rfl) (fun _ _ _ h => h) (Or.inl ⟨by rfl, fun Y hY => ?_⟩) hHeld ?_
    rotate_left
    · (go_simp) <;> with_reducible rfl
    try simp only [Act.put, List.setIfInBounds_toArray, List.set_cons_zero, List.set_cons_succ, List.getElem_toArray, List.getElem_cons_succ, List.getElem_cons_zero]
    refine wpAnyH_take (i := 24) (oi := _) (v := ?_) rfl (by kernel_rfl) (by kernel_rfl) (by kernel_rfl) (fun _ _ _ h => h) (Or.inl ⟨by rfl, fun Y hY => ?_⟩) hHeld ?_
    rotate_left
    · obtain ⟨y0, y1, y2, y3, y4, y5, y6, y7⟩ := hY
      (go_simp) <;> with_reducible rfl
    try simp only [Act.put, List.setIfInBounds_toArray, List.set_cons_zero, List.set_cons_succ, List.getElem_toArray, List.getElem_cons_succ, List.getElem_cons_zero]
    refine wpAnyH_ready (rs := [4, 15]) (by kernel_rfl) (by simp) ?_
    refine AllReadyH.cons (o := _) rfl (fun KK hKK => ?_) (AllReadyH.cons (o := _) rfl (fun KK hKK => ?_) AllReadyH.nil)
    · clear hHeld
      go_simp
      (with_reducible refine (HC1.out _ Hb0.out).mono ?_)
      rintro e x1 ⟨v1, rfl, hown, hb', hnw⟩
      obtain ⟨B1, k1, rfl⟩ := hown.form
      have Hb1 := Lib.hid (Hb0.out.trans (hb'.mono Hb0.out.size))
      have HO1 := Lib.hid hown
      have HD1 := Lib.hid (show ∀ i, (Value.slice B1 p.length k1).ownBlock = some i → W.heap.size ≤ i from fun i hi => Nat.le_trans Hb0.out.size (hnw i hi))
      clear hown hb' hnw
      refine hKK.out _ _ (HS.out _ Hb1.out) (fun hHeld => ?_)
      clear hKK KK
      try simp only [Act.put, List.setIfInBounds_toArray, List.set_cons_zero, List.set_cons_succ, List.getElem_toArray, List.getElem_cons_succ, List.getElem_cons_zero]
      refine wpAnyH_ready (rs := [9, 15]) (by kernel_rfl) (by simp) ?_
      refine AllReadyH.cons (o := _) rfl (fun KK hKK => ?_) (AllReadyH.cons (o := _) rfl (fun KK hKK => ?_) AllReadyH.nil)
      · clear hHeld
        go_simp
        have hl1 := HO1.out.lt
        (with_reducible refine (HC2.out _ Hb1.out).mono ?_)
        rintro e x2 ⟨v2, rfl, hown, hb', hnw⟩
        obtain ⟨B2, k2, rfl⟩ := hown.form
        have Hb2 := Lib.hid (Hb1.out.trans (hb'.mono Hb1.out.size))
        have HO2 := Lib.hid hown
        have HD2 := Lib.hid (show ∀ i, (Value.slice B2 wd.length k2).ownBlock = some i → W.heap.size ≤ i from fun i hi => Nat.le_trans Hb1.out.size (hnw i hi))
        replace HO1 := Lib.hid (HO1.out.below hb' HO1.out.lt)
        have HD12 := Lib.hid (show ∀ g, (Value.slice B1 p.length k1).ownBlock = some g → (Value.slice B2 wd.length k2).ownBlock ≠ some g from fun g h1 h2 => by have := hl1 g h1; have := hnw g h2; omega)
        clear hown hb' hnw hl1
        refine hKK.out _ _ (HS.out _ Hb2.out) (fun hHeld => ?_)
        clear hKK KK
        try simp only [Act.put, List.setIfInBounds_toArray, List.set_cons_zero, List.set_cons_succ, List.getElem_toArray, List.getElem_cons_succ, List.getElem_cons_zero]
        refine wpAnyH_ready (rs := [14, 15]) (by kernel_rfl) (by simp) ?_
        refine AllReadyH.cons (o := _) rfl (fun KK hKK => ?_) (AllReadyH.cons (o := _) rfl (fun KK hKK => ?_) AllReadyH.nil)
        · clear hHeld
          go_simp
          (with_reducible refine (HC3.out _ Hb2.out).mono ?_)
          rintro e x3 ⟨v3, rfl, hown, hb', hnw⟩
          obtain ⟨B3, k3, rfl⟩ := hown.form
          have Hb3 := Lib.hid (Hb2.out.trans (hb'.mono Hb2.out.size))
          have HO3 := Lib.hid hown
          have HD3 := Lib.hid (show ∀ i, (Value.slice B3 es.length k3).ownBlock = some i → W.heap.size ≤ i from fun i hi => Nat.le_trans Hb2.out.size (hnw i hi))
          replace HO1 := Lib.hid (HO1.out.below hb' HO1.out.lt)
          replace HO2 := Lib.hid (HO2.out.below hb' HO2.out.lt)
          clear hown hb' hnw
          refine hKK.out _ _ (HS.out _ Hb3.out) (fun hHeld => ?_)
          clear hKK KK
          try simp only [Act.put, List.setIfInBounds_toArray, List.set_cons_zero, List.set_cons_succ, List.getElem_toArray, List.getElem_cons_succ, List.getElem_cons_zero]
          refine wpAnyH_ready (rs := [15, 20]) (by kernel_rfl) (by simp) ?_
          refine AllReadyH.cons (o := _) rfl (fun KK hKK => ?_) (AllReadyH.cons (o := _) rfl (fun KK hKK => ?_) AllReadyH.nil)
          · clear hHeld
            go_simp
            obtain ⟨xa, hxa⟩ : ∃ xa, xa = (x3.alloc (.map #[] 0)) := ⟨_, rfl⟩
            rw [← hxa]
            have hba : Below (x3).heap.size (x3) xa := by rw [hxa]; exact ((Below.refl _ _).alloc (Nat.le_refl _) _)
            have Hba := Lib.hid (Hb3.out.trans (hba.mono Hb3.out.size))
            replace HO1 := Lib.hid (HO1.out.below hba HO1.out.lt)
            replace HO2 := Lib.hid (HO2.out.below hba HO2.out.lt)
            replace HO3 := Lib.hid (HO3.out.below hba HO3.out.lt)
            obtain ⟨gm, hgm⟩ : ∃ gm, gm = (x3).heap.size := ⟨_, rfl⟩
            have HDm := Lib.hid (show W.heap.size ≤ gm from by rw [hgm]; exact Hb3.out.size)
            have HMm := Lib.hid (show MapAt Tryz.prog 85 opV NatE xa gm [] from by rw [hgm]; exact (MapAt.made (R := NatE) (x3)).keep (by rw [hxa]) (fun _ _ _ h => h))
            rw [← hgm]
            clear hba hxa hgm
            refine hKK.out _ _ (HS.out _ Hba.out) (fun hHeld => ?_)
            clear hKK KK
            try simp only [Act.put, List.setIfInBounds_toArray, List.set_cons_zero, List.set_cons_succ, List.getElem_toArray, List.getElem_cons_succ, List.getElem_cons_zero]
            refine wpAnyH_ready (rs := [20]) (by kernel_rfl) (by simp) ?_
            refine AllReadyH.cons (o := _) rfl (fun KK hKK => ?_) AllReadyH.nil
            clear hHeld
            go_simp
            have hl1 := HO1.out.lt
            have hl2 := HO2.out.lt
            (with_reducible refine (HC4.out _ Hba.out).mono ?_)
            rintro e x4 ⟨v4, rfl, hown, hb', hnw⟩
            obtain ⟨B4, k4, rfl⟩ := hown.form
            have Hb4 := Lib.hid (Hba.out.trans (hb'.mono Hba.out.size))
            have HO4 := Lib.hid hown
            have HD4 := Lib.hid (show ∀ i, (Value.slice B4 nm.length k4).ownBlock = some i → W.heap.size ≤ i from fun i hi => Nat.le_trans Hba.out.size (hnw i hi))
            replace HO1 := Lib.hid (HO1.out.below hb' HO1.out.lt)
            replace HO2 := Lib.hid (HO2.out.below hb' HO2.out.lt)
            replace HO3 := Lib.hid (HO3.out.below hb' HO3.out.lt)
            replace HMm := Lib.hid (HMm.out.keep (R' := NatE) (hb'.block gm HMm.out.lt) (fun _ _ _ h => h))
            have HD14 := Lib.hid (show ∀ g, (Value.slice B1 p.length k1).ownBlock = some g → (Value.slice B4 nm.length k4).ownBlock ≠ some g from fun g h1 h2 => by have := hl1 g h1; have := hnw g h2; omega)
            have HD24 := Lib.hid (show ∀ g, (Value.slice B2 wd.length k2).ownBlock = some g → (Value.slice B4 nm.length k4).ownBlock ≠ some g from fun g h1 h2 => by have := hl2 g h1; have := hnw g h2; omega)
            clear hown hb' hnw hl1 hl2
            refine hKK.out _ _ (HS.out _ Hb4.out) (fun hHeld => ?_)
            clear hKK KK
            try simp only [Act.put, List.setIfInBounds_toArray, List.set_cons_zero, List.set_cons_succ, List.getElem_toArray, List.getElem_cons_succ, List.getElem_cons_zero]
            refine wpAnyH_take (i := 25) (oi := _) (v := ?_) rfl (by kernel_rfl) (by kernel_rfl) (by kernel_rfl) (fun _ _ _ h => h) (Or.inl ⟨by rfl, fun Y hY => ?_⟩) hHeld ?_
            rotate_left
            · (go_simp) <;> with_reducible rfl
            try simp only [Act.put, List.setIfInBounds_toArray, List.set_cons_zero, List.set_cons_succ, List.getElem_toArray, List.getElem_cons_succ, List.getElem_cons_zero]
            refine wpAnyH_ready (rs := [26]) (by kernel_rfl) (by simp) ?_
            refine AllReadyH.cons (o := _) rfl (fun KK hKK => ?_) AllReadyH.nil
            clear hHeld
            go_simp
            obtain ⟨xb, hxb⟩ : ∃ xb, xb = x4.alloc (.cells #[(Value.slice B1 p.length k1), (Value.slice B2 wd.length k2), (Value.slice B3 es.length k3), .map (some gm), (Value.slice B4 nm.length k4), .int .i64 vr.a, .int .i64 vr.b, .int .i64 vr.c, .int .i64 vr.d] 80) := ⟨_, rfl⟩
            rw [← hxb]
            have HNN := Lib.hid (newGr_box (W := W) (p := p) (wd := wd) (es := es) (nm := nm) (vr := vr) HO1.out HO2.out HO3.out HO4.out HMm.out HD1.out HD2.out HD3.out HD4.out HDm.out HD12.out HD14.out HD24.out Hb4.out hxb)
            have hbx : Below x4.heap.size x4 xb := by rw [hxb]; exact (Below.refl _ _).alloc (Nat.le_refl _) _
            have Hbx := Lib.hid (Hb4.out.trans (hbx.mono Hb4.out.size))
            clear hxb hbx
            refine hKK.out _ _ (HS.out _ Hbx.out) (fun hHeld => ?_)
            clear hKK KK
            try simp only [Act.put, List.setIfInBounds_toArray, List.set_cons_zero, List.set_cons_succ, List.getElem_toArray, List.getElem_cons_succ, List.getElem_cons_zero]
            refine wpAnyH_take (i := 27) (oi := _) (v := ?_) rfl (by kernel_rfl) (by kernel_rfl) (by kernel_rfl) (fun _ _ _ h => h) (Or.inl ⟨by rfl, fun Y hY => ?_⟩) hHeld ?_
            rotate_left
            · (go_simp) <;> with_reducible rfl
            try simp only [Act.put, List.setIfInBounds_toArray, List.set_cons_zero, List.set_cons_succ, List.getElem_toArray, List.getElem_cons_succ, List.getElem_cons_zero]
            refine wpAnyH_done (by kernel_rfl) ?_ _
            go_wp2_with fail
            go_meet
            exact ⟨_, _, _, _, _, _, rfl, HNN⟩
          · clear hHeld
            go_simp
            have hl1 := HO1.out.lt
            have hl2 := HO2.out.lt
            (with_reducible refine (HC4.out _ Hb3.out).mono ?_)
            rintro e x4 ⟨v4, rfl, hown, hb', hnw⟩
            obtain ⟨B4, k4, rfl⟩ := hown.form
            have Hb4 := Lib.hid (Hb3.out.trans (hb'.mono Hb3.out.size))
            have HO4 := Lib.hid hown
            have HD4 := Lib.hid (show ∀ i, (Value.slice B4 nm.length k4).ownBlock = some i → W.heap.size ≤ i from fun i hi => Nat.le_trans Hb3.out.size (hnw i hi))
            replace HO1 := Lib.hid (HO1.out.below hb' HO1.out.lt)
            replace HO2 := Lib.hid (HO2.out.below hb' HO2.out.lt)
            replace HO3 := Lib.hid (HO3.out.below hb' HO3.out.lt)
            have HD14 := Lib.hid (show ∀ g, (Value.slice B1 p.length k1).ownBlock = some g → (Value.slice B4 nm.length k4).ownBlock ≠ some g from fun g h1 h2 => by have := hl1 g h1; have := hnw g h2; omega)
            have HD24 := Lib.hid (show ∀ g, (Value.slice B2 wd.length k2).ownBlock = some g → (Value.slice B4 nm.length k4).ownBlock ≠ some g from fun g h1 h2 => by have := hl2 g h1; have := hnw g h2; omega)
            clear hown hb' hnw hl1 hl2
            refine hKK.out _ _ (HS.out _ Hb4.out) (fun hHeld => ?_)
            clear hKK KK
            try simp only [Act.put, List.setIfInBounds_toArray, List.set_cons_zero, List.set_cons_succ, List.getElem_toArray, List.getElem_cons_succ, List.getElem_cons_zero]
            refine wpAnyH_ready (rs := [15]) (by kernel_rfl) (by simp) ?_
            refine AllReadyH.cons (o := _) rfl (fun KK hKK => ?_) AllReadyH.nil
            clear hHeld
            go_simp
            obtain ⟨xa, hxa⟩ : ∃ xa, xa = (x4.alloc (.map #[] 0)) := ⟨_, rfl⟩
            rw [← hxa]
            have hba : Below (x4).heap.size (x4) xa := by rw [hxa]; exact ((Below.refl _ _).alloc (Nat.le_refl _) _)
            have Hba := Lib.hid (Hb4.out.trans (hba.mono Hb4.out.size))
            replace HO1 := Lib.hid (HO1.out.below hba HO1.out.lt)
            replace HO2 := Lib.hid (HO2.out.below hba HO2.out.lt)
            replace HO3 := Lib.hid (HO3.out.below hba HO3.out.lt)
            replace HO4 := Lib.hid (HO4.out.below hba HO4.out.lt)
            obtain ⟨gm, hgm⟩ : ∃ gm, gm = (x4).heap.size := ⟨_, rfl⟩
            have HDm := Lib.hid (show W.heap.size ≤ gm from by rw [hgm]; exact Hb4.out.size)
            have HMm := Lib.hid (show MapAt Tryz.prog 85 opV NatE xa gm [] from by rw [hgm]; exact (MapAt.made (R := NatE) (x4)).keep (by rw [hxa]) (fun _ _ _ h => h))
            rw [← hgm]
            clear hba hxa hgm
            refine hKK.out _ _ (HS.out _ Hba.out) (fun hHeld => ?_)
            clear hKK KK
            try simp only [Act.put, List.setIfInBounds_toArray, List.set_cons_zero, List.set_cons_succ, List.getElem_toArray, List.getElem_cons_succ, List.getElem_cons_zero]
            refine wpAnyH_take (i := 25) (oi := _) (v := ?_) rfl (by kernel_rfl) (by kernel_rfl) (by kernel_rfl) (fun _ _ _ h => h) (Or.inl ⟨by rfl, fun Y hY => ?_⟩) hHeld ?_
            rotate_left
            · (go_simp) <;> with_reducible rfl
            try simp only [Act.put, List.setIfInBounds_toArray, List.set_cons_zero, List.set_cons_succ, List.getElem_toArray, List.getElem_cons_succ, List.getElem_cons_zero]
            refine wpAnyH_ready (rs := [26]) (by kernel_rfl) (by simp) ?_
            refine AllReadyH.cons (o := _) rfl (fun KK hKK => ?_) AllReadyH.nil
            clear hHeld
            go_simp
            obtain ⟨xb, hxb⟩ : ∃ xb, xb = xa.alloc (.cells #[(Value.slice B1 p.length k1), (Value.slice B2 wd.length k2), (Value.slice B3 es.length k3), .map (some gm), (Value.slice B4 nm.length k4), .int .i64 vr.a, .int .i64 vr.b, .int .i64 vr.c, .int .i64 vr.d] 80) := ⟨_, rfl⟩
            rw [← hxb]
            have HNN := Lib.hid (newGr_box (W := W) (p := p) (wd := wd) (es := es) (nm := nm) (vr := vr) HO1.out HO2.out HO3.out HO4.out HMm.out HD1.out HD2.out HD3.out HD4.out HDm.out HD12.out HD14.out HD24.out Hba.out hxb)
            have hbx : Below xa.heap.size xa xb := by rw [hxb]; exact (Below.refl _ _).alloc (Nat.le_refl _) _
            have Hbx := Lib.hid (Hba.out.trans (hbx.mono Hba.out.size))
            clear hxb hbx
            refine hKK.out _ _ (HS.out _ Hbx.out) (fun hHeld => ?_)
            clear hKK KK
            try simp only [Act.put, List.setIfInBounds_toArray, List.set_cons_zero, List.set_cons_succ, List.getElem_toArray, List.getElem_cons_succ, List.getElem_cons_zero]
            refine wpAnyH_take (i := 27) (oi := _) (v := ?_) rfl (by kernel_rfl) (by kernel_rfl) (by kernel_rfl) (fun _ _ _ h => h) (Or.inl ⟨by rfl, fun Y hY => ?_⟩) hHeld ?_
            rotate_left
            · (go_simp) <;> with_reducible rfl
            try simp only [Act.put, List.setIfInBounds_toArray, List.set_cons_zero, List.set_cons_succ, List.getElem_toArray, List.getElem_cons_succ, List.getElem_cons_zero]
            refine wpAnyH_done (by kernel_rfl) ?_ _
            go_wp2_with fail
            go_meet
            exact ⟨_, _, _, _, _, _, rfl, HNN⟩
        · clear hHeld
          go_simp
          obtain ⟨xa, hxa⟩ : ∃ xa, xa = (x2.alloc (.map #[] 0)) := ⟨_, rfl⟩
          rw [← hxa]
          have hba : Below (x2).heap.size (x2) xa := by rw [hxa]; exact ((Below.refl _ _).alloc (Nat.le_refl _) _)
          have Hba := Lib.hid (Hb2.out.trans (hba.mono Hb2.out.size))
          replace HO1 := Lib.hid (HO1.out.below hba HO1.out.lt)
          replace HO2 := Lib.hid (HO2.out.below hba HO2.out.lt)
          obtain ⟨gm, hgm⟩ : ∃ gm, gm = (x2).heap.size := ⟨_, rfl⟩
          have HDm := Lib.hid (show W.heap.size ≤ gm from by rw [hgm]; exact Hb2.out.size)
          have HMm := Lib.hid (show MapAt Tryz.prog 85 opV NatE xa gm [] from by rw [hgm]; exact (MapAt.made (R := NatE) (x2)).keep (by rw [hxa]) (fun _ _ _ h => h))
          rw [← hgm]
          clear hba hxa hgm
          refine hKK.out _ _ (HS.out _ Hba.out) (fun hHeld => ?_)
          clear hKK KK
          try simp only [Act.put, List.setIfInBounds_toArray, List.set_cons_zero, List.set_cons_succ, List.getElem_toArray, List.getElem_cons_succ, List.getElem_cons_zero]
          refine wpAnyH_ready (rs := [14]) (by kernel_rfl) (by simp) ?_
          refine AllReadyH.cons (o := _) rfl (fun KK hKK => ?_) AllReadyH.nil
          clear hHeld
          go_simp
          (with_reducible refine (HC3.out _ Hba.out).mono ?_)
          rintro e x3 ⟨v3, rfl, hown, hb', hnw⟩
          obtain ⟨B3, k3, rfl⟩ := hown.form
          have Hb3 := Lib.hid (Hba.out.trans (hb'.mono Hba.out.size))
          have HO3 := Lib.hid hown
          have HD3 := Lib.hid (show ∀ i, (Value.slice B3 es.length k3).ownBlock = some i → W.heap.size ≤ i from fun i hi => Nat.le_trans Hba.out.size (hnw i hi))
          replace HO1 := Lib.hid (HO1.out.below hb' HO1.out.lt)
          replace HO2 := Lib.hid (HO2.out.below hb' HO2.out.lt)
          replace HMm := Lib.hid (HMm.out.keep (R' := NatE) (hb'.block gm HMm.out.lt) (fun _ _ _ h => h))
          clear hown hb' hnw
          refine hKK.out _ _ (HS.out _ Hb3.out) (fun hHeld => ?_)
          clear hKK KK
          try simp only [Act.put, List.setIfInBounds_toArray, List.set_cons_zero, List.set_cons_succ, List.getElem_toArray, List.getElem_cons_succ, List.getElem_cons_zero]
          refine wpAnyH_ready (rs := [20]) (by kernel_rfl) (by simp) ?_
          refine AllReadyH.cons (o := _) rfl (fun KK hKK => ?_) AllReadyH.nil
          clear hHeld
          go_simp
          have hl1 := HO1.out.lt
          have hl2 := HO2.out.lt
          (with_reducible refine (HC4.out _ Hb3.out).mono ?_)
          rintro e x4 ⟨v4, rfl, hown, hb', hnw⟩
          obtain ⟨B4, k4, rfl⟩ := hown.form
          have Hb4 := Lib.hid (Hb3.out.trans (hb'.mono Hb3.out.size))
          have HO4 := Lib.hid hown
          have HD4 := Lib.hid (show ∀ i, (Value.slice B4 nm.length k4).ownBlock = some i → W.heap.size ≤ i from fun i hi => Nat.le_trans Hb3.out.size (hnw i hi))
          replace HO1 := Lib.hid (HO1.out.below hb' HO1.out.lt)
          replace HO2 := Lib.hid (HO2.out.below hb' HO2.out.lt)
          replace HO3 := Lib.hid (HO3.out.below hb' HO3.out.lt)
          replace HMm := Lib.hid (HMm.out.keep (R' := NatE) (hb'.block gm HMm.out.lt) (fun _ _ _ h => h))
          have HD14 := Lib.hid (show ∀ g, (Value.slice B1 p.length k1).ownBlock = some g → (Value.slice B4 nm.length k4).ownBlock ≠ some g from fun g h1 h2 => by have := hl1 g h1; have := hnw g h2; omega)
          have HD24 := Lib.hid (show ∀ g, (Value.slice B2 wd.length k2).ownBlock = some g → (Value.slice B4 nm.length k4).ownBlock ≠ some g from fun g h1 h2 => by have := hl2 g h1; have := hnw g h2; omega)
          clear hown hb' hnw hl1 hl2
          refine hKK.out _ _ (HS.out _ Hb4.out) (fun hHeld => ?_)
          clear hKK KK
          try simp only [Act.put, List.setIfInBounds_toArray, List.set_cons_zero, List.set_cons_succ, List.getElem_toArray, List.getElem_cons_succ, List.getElem_cons_zero]
          refine wpAnyH_take (i := 25) (oi := _) (v := ?_) rfl (by kernel_rfl) (by kernel_rfl) (by kernel_rfl) (fun _ _ _ h => h) (Or.inl ⟨by rfl, fun Y hY => ?_⟩) hHeld ?_
          rotate_left
          · (go_simp) <;> with_reducible rfl
          try simp only [Act.put, List.setIfInBounds_toArray, List.set_cons_zero, List.set_cons_succ, List.getElem_toArray, List.getElem_cons_succ, List.getElem_cons_zero]
          refine wpAnyH_ready (rs := [26]) (by kernel_rfl) (by simp) ?_
          refine AllReadyH.cons (o := _) rfl (fun KK hKK => ?_) AllReadyH.nil
          clear hHeld
          go_simp
          obtain ⟨xb, hxb⟩ : ∃ xb, xb = x4.alloc (.cells #[(Value.slice B1 p.length k1), (Value.slice B2 wd.length k2), (Value.slice B3 es.length k3), .map (some gm), (Value.slice B4 nm.length k4), .int .i64 vr.a, .int .i64 vr.b, .int .i64 vr.c, .int .i64 vr.d] 80) := ⟨_, rfl⟩
          rw [← hxb]
          have HNN := Lib.hid (newGr_box (W := W) (p := p) (wd := wd) (es := es) (nm := nm) (vr := vr) HO1.out HO2.out HO3.out HO4.out HMm.out HD1.out HD2.out HD3.out HD4.out HDm.out HD12.out HD14.out HD24.out Hb4.out hxb)
          have hbx : Below x4.heap.size x4 xb := by rw [hxb]; exact (Below.refl _ _).alloc (Nat.le_refl _) _
          have Hbx := Lib.hid (Hb4.out.trans (hbx.mono Hb4.out.size))
          clear hxb hbx
          refine hKK.out _ _ (HS.out _ Hbx.out) (fun hHeld => ?_)
          clear hKK KK
          try simp only [Act.put, List.setIfInBounds_toArray, List.set_cons_zero, List.set_cons_succ, List.getElem_toArray, List.getElem_cons_succ, List.getElem_cons_zero]
          refine wpAnyH_take (i := 27) (oi := _) (v := ?_) rfl (by kernel_rfl) (by kernel_rfl) (by kernel_rfl) (fun _ _ _ h => h) (Or.inl ⟨by rfl, fun Y hY => ?_⟩) hHeld ?_
          rotate_left
          · (go_simp) <;> with_reducible rfl
          try simp only [Act.put, List.setIfInBounds_toArray, List.set_cons_zero, List.set_cons_succ, List.getElem_toArray, List.getElem_cons_succ, List.getElem_cons_zero]
          refine wpAnyH_done (by kernel_rfl) ?_ _
          go_wp2_with fail
          go_meet
          exact ⟨_, _, _, _, _, _, rfl, HNN⟩
      · clear hHeld
        go_simp
        obtain ⟨xa, hxa⟩ : ∃ xa, xa = (x1.alloc (.map #[] 0)) := ⟨_, rfl⟩
        rw [← hxa]
        have hba : Below (x1).heap.size (x1) xa := by rw [hxa]; exact ((Below.refl _ _).alloc (Nat.le_refl _) _)
        have Hba := Lib.hid (Hb1.out.trans (hba.mono Hb1.out.size))
        replace HO1 := Lib.hid (HO1.out.below hba HO1.out.lt)
        obtain ⟨gm, hgm⟩ : ∃ gm, gm = (x1).heap.size := ⟨_, rfl⟩
        have HDm := Lib.hid (show W.heap.size ≤ gm from by rw [hgm]; exact Hb1.out.size)
        have HMm := Lib.hid (show MapAt Tryz.prog 85 opV NatE xa gm [] from by rw [hgm]; exact (MapAt.made (R := NatE) (x1)).keep (by rw [hxa]) (fun _ _ _ h => h))
        rw [← hgm]
        clear hba hxa hgm
        refine hKK.out _ _ (HS.out _ Hba.out) (fun hHeld => ?_)
        clear hKK KK
        try simp only [Act.put, List.setIfInBounds_toArray, List.set_cons_zero, List.set_cons_succ, List.getElem_toArray, List.getElem_cons_succ, List.getElem_cons_zero]
        refine wpAnyH_ready (rs := [9]) (by kernel_rfl) (by simp) ?_
        refine AllReadyH.cons (o := _) rfl (fun KK hKK => ?_) AllReadyH.nil
        clear hHeld
        go_simp
        have hl1 := HO1.out.lt
        (with_reducible refine (HC2.out _ Hba.out).mono ?_)
        rintro e x2 ⟨v2, rfl, hown, hb', hnw⟩
        obtain ⟨B2, k2, rfl⟩ := hown.form
        have Hb2 := Lib.hid (Hba.out.trans (hb'.mono Hba.out.size))
        have HO2 := Lib.hid hown
        have HD2 := Lib.hid (show ∀ i, (Value.slice B2 wd.length k2).ownBlock = some i → W.heap.size ≤ i from fun i hi => Nat.le_trans Hba.out.size (hnw i hi))
        replace HO1 := Lib.hid (HO1.out.below hb' HO1.out.lt)
        replace HMm := Lib.hid (HMm.out.keep (R' := NatE) (hb'.block gm HMm.out.lt) (fun _ _ _ h => h))
        have HD12 := Lib.hid (show ∀ g, (Value.slice B1 p.length k1).ownBlock = some g → (Value.slice B2 wd.length k2).ownBlock ≠ some g from fun g h1 h2 => by have := hl1 g h1; have := hnw g h2; omega)
        clear hown hb' hnw hl1
        refine hKK.out _ _ (HS.out _ Hb2.out) (fun hHeld => ?_)
        clear hKK KK
        try simp only [Act.put, List.setIfInBounds_toArray, List.set_cons_zero, List.set_cons_succ, List.getElem_toArray, List.getElem_cons_succ, List.getElem_cons_zero]
        refine wpAnyH_ready (rs := [14]) (by kernel_rfl) (by simp) ?_
        refine AllReadyH.cons (o := _) rfl (fun KK hKK => ?_) AllReadyH.nil
        clear hHeld
        go_simp
        (with_reducible refine (HC3.out _ Hb2.out).mono ?_)
        rintro e x3 ⟨v3, rfl, hown, hb', hnw⟩
        obtain ⟨B3, k3, rfl⟩ := hown.form
        have Hb3 := Lib.hid (Hb2.out.trans (hb'.mono Hb2.out.size))
        have HO3 := Lib.hid hown
        have HD3 := Lib.hid (show ∀ i, (Value.slice B3 es.length k3).ownBlock = some i → W.heap.size ≤ i from fun i hi => Nat.le_trans Hb2.out.size (hnw i hi))
        replace HO1 := Lib.hid (HO1.out.below hb' HO1.out.lt)
        replace HO2 := Lib.hid (HO2.out.below hb' HO2.out.lt)
        replace HMm := Lib.hid (HMm.out.keep (R' := NatE) (hb'.block gm HMm.out.lt) (fun _ _ _ h => h))
        clear hown hb' hnw
        refine hKK.out _ _ (HS.out _ Hb3.out) (fun hHeld => ?_)
        clear hKK KK
        try simp only [Act.put, List.setIfInBounds_toArray, List.set_cons_zero, List.set_cons_succ, List.getElem_toArray, List.getElem_cons_succ, List.getElem_cons_zero]
        refine wpAnyH_ready (rs := [20]) (by kernel_rfl) (by simp) ?_
        refine AllReadyH.cons (o := _) rfl (fun KK hKK => ?_) AllReadyH.nil
        clear hHeld
        go_simp
        have hl1 := HO1.out.lt
        have hl2 := HO2.out.lt
        (with_reducible refine (HC4.out _ Hb3.out).mono ?_)
        rintro e x4 ⟨v4, rfl, hown, hb', hnw⟩
        obtain ⟨B4, k4, rfl⟩ := hown.form
        have Hb4 := Lib.hid (Hb3.out.trans (hb'.mono Hb3.out.size))
        have HO4 := Lib.hid hown
        have HD4 := Lib.hid (show ∀ i, (Value.slice B4 nm.length k4).ownBlock = some i → W.heap.size ≤ i from fun i hi => Nat.le_trans Hb3.out.size (hnw i hi))
        replace HO1 := Lib.hid (HO1.out.below hb' HO1.out.lt)
        replace HO2 := Lib.hid (HO2.out.below hb' HO2.out.lt)
        replace HO3 := Lib.hid (HO3.out.below hb' HO3.out.lt)
        replace HMm := Lib.hid (HMm.out.keep (R' := NatE) (hb'.block gm HMm.out.lt) (fun _ _ _ h => h))
        have HD14 := Lib.hid (show ∀ g, (Value.slice B1 p.length k1).ownBlock = some g → (Value.slice B4 nm.length k4).ownBlock ≠ some g from fun g h1 h2 => by have := hl1 g h1; have := hnw g h2; omega)
        have HD24 := Lib.hid (show ∀ g, (Value.slice B2 wd.length k2).ownBlock = some g → (Value.slice B4 nm.length k4).ownBlock ≠ some g from fun g h1 h2 => by have := hl2 g h1; have := hnw g h2; omega)
        clear hown hb' hnw hl1 hl2
        refine hKK.out _ _ (HS.out _ Hb4.out) (fun hHeld => ?_)
        clear hKK KK
        try simp only [Act.put, List.setIfInBounds_toArray, List.set_cons_zero, List.set_cons_succ, List.getElem_toArray, List.getElem_cons_succ, List.getElem_cons_zero]
        refine wpAnyH_take (i := 25) (oi := _) (v := ?_) rfl (by kernel_rfl) (by kernel_rfl) (by kernel_rfl) (fun _ _ _ h => h) (Or.inl ⟨by rfl, fun Y hY => ?_⟩) hHeld ?_
        rotate_left
        · (go_simp) <;> with_reducible rfl
        try simp only [Act.put, List.setIfInBounds_toArray, List.set_cons_zero, List.set_cons_succ, List.getElem_toArray, List.getElem_cons_succ, List.getElem_cons_zero]
        refine wpAnyH_ready (rs := [26]) (by kernel_rfl) (by simp) ?_
        refine AllReadyH.cons (o := _) rfl (fun KK hKK => ?_) AllReadyH.nil
        clear hHeld
        go_simp
        obtain ⟨xb, hxb⟩ : ∃ xb, xb = x4.alloc (.cells #[(Value.slice B1 p.length k1), (Value.slice B2 wd.length k2), (Value.slice B3 es.length k3), .map (some gm), (Value.slice B4 nm.length k4), .int .i64 vr.a, .int .i64 vr.b, .int .i64 vr.c, .int .i64 vr.d] 80) := ⟨_, rfl⟩
        rw [← hxb]
        have HNN := Lib.hid (newGr_box (W := W) (p := p) (wd := wd) (es := es) (nm := nm) (vr := vr) HO1.out HO2.out HO3.out HO4.out HMm.out HD1.out HD2.out HD3.out HD4.out HDm.out HD12.out HD14.out HD24.out Hb4.out hxb)
        have hbx : Below x4.heap.size x4 xb := by rw [hxb]; exact (Below.refl _ _).alloc (Nat.le_refl _) _
        have Hbx := Lib.hid (Hb4.out.trans (hbx.mono Hb4.out.size))
        clear hxb hbx
        refine hKK.out _ _ (HS.out _ Hbx.out) (fun hHeld => ?_)
        clear hKK KK
        try simp only [Act.put, List.setIfInBounds_toArray, List.set_cons_zero, List.set_cons_succ, List.getElem_toArray, List.getElem_cons_succ, List.getElem_cons_zero]
        refine wpAnyH_take (i := 27) (oi := _) (v := ?_) rfl (by kernel_rfl) (by kernel_rfl) (by kernel_rfl) (fun _ _ _ h => h) (Or.inl ⟨by rfl, fun Y hY => ?_⟩) hHeld ?_
        rotate_left
        · (go_simp) <;> with_reducible rfl
        try simp only [Act.put, List.setIfInBounds_toArray, List.set_cons_zero, List.set_cons_succ, List.getElem_toArray, List.getElem_cons_succ, List.getElem_cons_zero]
        refine wpAnyH_done (by kernel_rfl) ?_ _
        go_wp2_with fail
        go_meet
        exact ⟨_, _, _, _, _, _, rfl, HNN⟩
    · clear hHeld
      go_simp
      obtain ⟨xa, hxa⟩ : ∃ xa, xa = (W.alloc (.map #[] 0)).drew := ⟨_, rfl⟩
      rw [← hxa]
      have hba : Below (W).heap.size (W) xa := by rw [hxa]; exact ((Below.refl _ _).alloc (Nat.le_refl _) _).drew
      have Hba := Lib.hid (Hbr.out.trans (hba.mono Hbr.out.size))
      obtain ⟨gm, hgm⟩ : ∃ gm, gm = (W).heap.size := ⟨_, rfl⟩
      have HDm := Lib.hid (show W.heap.size ≤ gm from by rw [hgm]; exact Hbr.out.size)
      have HMm := Lib.hid (show MapAt Tryz.prog 85 opV NatE xa gm [] from by rw [hgm]; exact (MapAt.made (R := NatE) (W)).keep (by rw [hxa]; rfl) (fun _ _ _ h => h))
      rw [← hgm]
      clear hba hxa hgm
      refine hKK.out _ _ (HS.out _ Hba.out) (fun hHeld => ?_)
      clear hKK KK
      try simp only [Act.put, List.setIfInBounds_toArray, List.set_cons_zero, List.set_cons_succ, List.getElem_toArray, List.getElem_cons_succ, List.getElem_cons_zero]
      refine wpAnyH_ready (rs := [4]) (by kernel_rfl) (by simp) ?_
      refine AllReadyH.cons (o := _) rfl (fun KK hKK => ?_) AllReadyH.nil
      clear hHeld
      go_simp
      (with_reducible refine (HC1.out _ Hba.out).mono ?_)
      rintro e x1 ⟨v1, rfl, hown, hb', hnw⟩
      obtain ⟨B1, k1, rfl⟩ := hown.form
      have Hb1 := Lib.hid (Hba.out.trans (hb'.mono Hba.out.size))
      have HO1 := Lib.hid hown
      have HD1 := Lib.hid (show ∀ i, (Value.slice B1 p.length k1).ownBlock = some i → W.heap.size ≤ i from fun i hi => Nat.le_trans Hba.out.size (hnw i hi))
      replace HMm := Lib.hid (HMm.out.keep (R' := NatE) (hb'.block gm HMm.out.lt) (fun _ _ _ h => h))
      clear hown hb' hnw
      refine hKK.out _ _ (HS.out _ Hb1.out) (fun hHeld => ?_)
      clear hKK KK
      try simp only [Act.put, List.setIfInBounds_toArray, List.set_cons_zero, List.set_cons_succ, List.getElem_toArray, List.getElem_cons_succ, List.getElem_cons_zero]
      refine wpAnyH_ready (rs := [9]) (by kernel_rfl) (by simp) ?_
      refine AllReadyH.cons (o := _) rfl (fun KK hKK => ?_) AllReadyH.nil
      clear hHeld
      go_simp
      have hl1 := HO1.out.lt
      (with_reducible refine (HC2.out _ Hb1.out).mono ?_)
      rintro e x2 ⟨v2, rfl, hown, hb', hnw⟩
      obtain ⟨B2, k2, rfl⟩ := hown.form
      have Hb2 := Lib.hid (Hb1.out.trans (hb'.mono Hb1.out.size))
      have HO2 := Lib.hid hown
      have HD2 := Lib.hid (show ∀ i, (Value.slice B2 wd.length k2).ownBlock = some i → W.heap.size ≤ i from fun i hi => Nat.le_trans Hb1.out.size (hnw i hi))
      replace HO1 := Lib.hid (HO1.out.below hb' HO1.out.lt)
      replace HMm := Lib.hid (HMm.out.keep (R' := NatE) (hb'.block gm HMm.out.lt) (fun _ _ _ h => h))
      have HD12 := Lib.hid (show ∀ g, (Value.slice B1 p.length k1).ownBlock = some g → (Value.slice B2 wd.length k2).ownBlock ≠ some g from fun g h1 h2 => by have := hl1 g h1; have := hnw g h2; omega)
      clear hown hb' hnw hl1
      refine hKK.out _ _ (HS.out _ Hb2.out) (fun hHeld => ?_)
      clear hKK KK
      try simp only [Act.put, List.setIfInBounds_toArray, List.set_cons_zero, List.set_cons_succ, List.getElem_toArray, List.getElem_cons_succ, List.getElem_cons_zero]
      refine wpAnyH_ready (rs := [14]) (by kernel_rfl) (by simp) ?_
      refine AllReadyH.cons (o := _) rfl (fun KK hKK => ?_) AllReadyH.nil
      clear hHeld
      go_simp
      (with_reducible refine (HC3.out _ Hb2.out).mono ?_)
      rintro e x3 ⟨v3, rfl, hown, hb', hnw⟩
      obtain ⟨B3, k3, rfl⟩ := hown.form
      have Hb3 := Lib.hid (Hb2.out.trans (hb'.mono Hb2.out.size))
      have HO3 := Lib.hid hown
      have HD3 := Lib.hid (show ∀ i, (Value.slice B3 es.length k3).ownBlock = some i → W.heap.size ≤ i from fun i hi => Nat.le_trans Hb2.out.size (hnw i hi))
      replace HO1 := Lib.hid (HO1.out.below hb' HO1.out.lt)
      replace HO2 := Lib.hid (HO2.out.below hb' HO2.out.lt)
      replace HMm := Lib.hid (HMm.out.keep (R' := NatE) (hb'.block gm HMm.out.lt) (fun _ _ _ h => h))
      clear hown hb' hnw
      refine hKK.out _ _ (HS.out _ Hb3.out) (fun hHeld => ?_)
      clear hKK KK
      try simp only [Act.put, List.setIfInBounds_toArray, List.set_cons_zero, List.set_cons_succ, List.getElem_toArray, List.getElem_cons_succ, List.getElem_cons_zero]
      refine wpAnyH_ready (rs := [20]) (by kernel_rfl) (by simp) ?_
      refine AllReadyH.cons (o := _) rfl (fun KK hKK => ?_) AllReadyH.nil
      clear hHeld
      go_simp
      have hl1 := HO1.out.lt
      have hl2 := HO2.out.lt
      (with_reducible refine (HC4.out _ Hb3.out).mono ?_)
      rintro e x4 ⟨v4, rfl, hown, hb', hnw⟩
      obtain ⟨B4, k4, rfl⟩ := hown.form
      have Hb4 := Lib.hid (Hb3.out.trans (hb'.mono Hb3.out.size))
      have HO4 := Lib.hid hown
      have HD4 := Lib.hid (show ∀ i, (Value.slice B4 nm.length k4).ownBlock = some i → W.heap.size ≤ i from fun i hi => Nat.le_trans Hb3.out.size (hnw i hi))
      replace HO1 := Lib.hid (HO1.out.below hb' HO1.out.lt)
      replace HO2 := Lib.hid (HO2.out.below hb' HO2.out.lt)
      replace HO3 := Lib.hid (HO3.out.below hb' HO3.out.lt)
      replace HMm := Lib.hid (HMm.out.keep (R' := NatE) (hb'.block gm HMm.out.lt) (fun _ _ _ h => h))
      have HD14 := Lib.hid (show ∀ g, (Value.slice B1 p.length k1).ownBlock = some g → (Value.slice B4 nm.length k4).ownBlock ≠ some g from fun g h1 h2 => by have := hl1 g h1; have := hnw g h2; omega)
      have HD24 := Lib.hid (show ∀ g, (Value.slice B2 wd.length k2).ownBlock = some g → (Value.slice B4 nm.length k4).ownBlock ≠ some g from fun g h1 h2 => by have := hl2 g h1; have := hnw g h2; omega)
      clear hown hb' hnw hl1 hl2
      refine hKK.out _ _ (HS.out _ Hb4.out) (fun hHeld => ?_)
      clear hKK KK
      try simp only [Act.put, List.setIfInBounds_toArray, List.set_cons_zero, List.set_cons_succ, List.getElem_toArray, List.getElem_cons_succ, List.getElem_cons_zero]
      refine wpAnyH_take (i := 25) (oi := _) (v := ?_) rfl (by kernel_rfl) (by kernel_rfl) (by kernel_rfl) (fun _ _ _ h => h) (Or.inl ⟨by rfl, fun Y hY => ?_⟩) hHeld ?_
      rotate_left
      · (go_simp) <;> with_reducible rfl
      try simp only [Act.put, List.setIfInBounds_toArray, List.set_cons_zero, List.set_cons_succ, List.getElem_toArray, List.getElem_cons_succ, List.getElem_cons_zero]
      refine wpAnyH_ready (rs := [26]) (by kernel_rfl) (by simp) ?_
      refine AllReadyH.cons (o := _) rfl (fun KK hKK => ?_) AllReadyH.nil
      clear hHeld
      go_simp
      obtain ⟨xb, hxb⟩ : ∃ xb, xb = x4.alloc (.cells #[(Value.slice B1 p.length k1), (Value.slice B2 wd.length k2), (Value.slice B3 es.length k3), .map (some gm), (Value.slice B4 nm.length k4), .int .i64 vr.a, .int .i64 vr.b, .int .i64 vr.c, .int .i64 vr.d] 80) := ⟨_, rfl⟩
      rw [← hxb]
      have HNN := Lib.hid (newGr_box (W := W) (p := p) (wd := wd) (es := es) (nm := nm) (vr := vr) HO1.out HO2.out HO3.out HO4.out HMm.out HD1.out HD2.out HD3.out HD4.out HDm.out HD12.out HD14.out HD24.out Hb4.out hxb)
      have hbx : Below x4.heap.size x4 xb := by rw [hxb]; exact (Below.refl _ _).alloc (Nat.le_refl _) _
      have Hbx := Lib.hid (Hb4.out.trans (hbx.mono Hb4.out.size))
      clear hxb hbx
      refine hKK.out _ _ (HS.out _ Hbx.out) (fun hHeld => ?_)
      clear hKK KK
      try simp only [Act.put, List.setIfInBounds_toArray, List.set_cons_zero, List.set_cons_succ, List.getElem_toArray, List.getElem_cons_succ, List.getElem_cons_zero]
      refine wpAnyH_take (i := 27) (oi := _) (v := ?_) rfl (by kernel_rfl) (by kernel_rfl) (by kernel_rfl) (fun _ _ _ h => h) (Or.inl ⟨by rfl, fun Y hY => ?_⟩) hHeld ?_
      rotate_left
      · (go_simp) <;> with_reducible rfl
      try simp only [Act.put, List.setIfInBounds_toArray, List.set_cons_zero, List.set_cons_succ, List.getElem_toArray, List.getElem_cons_succ, List.getElem_cons_zero]
      refine wpAnyH_done (by kernel_rfl) ?_ _
      go_wp2_with fail
      go_meet
      exact ⟨_, _, _, _, _, _, rfl, HNN⟩
  case rest =>
  obtain ⟨gb, u1, u2, u3, u4, km, rfl, HN⟩ := hcut
  have hk := HN.out.gr.cells.2.2.1
  obtain ⟨A5, c5, e5⟩ := HN.out.gr.o3.form
  subst e5
  have hle3 := HN.out.gr.o3.le
  have HN0 := Lib.hid (show NewGr W p wd es (es.take 0) nm vr wc gb u1 u2 (.slice A5 es.length c5) u4 km from HN.out)
  go_wp2
  clear hk HN
  go_loopg [38] (es.length + 1) (fun gg s38 wr => ∃ (j : Nat), j ≤ es.length ∧ s38 = .int .i64 (j : Int) ∧ gg + j = es.length + 1 ∧ Hid (NewGr W p wd es (es.take j) nm vr wr gb u1 u2 (.slice A5 es.length c5) u4 km))
  case atStart => exact ⟨0, Nat.zero_le _, rfl, rfl, HN0⟩
  case round =>
    obtain ⟨j, hj, rfl, hgk, HN⟩ := hrel
    have Hgk := Lib.hid hgk
    clear hgk HN0
    by_cases hjl : j < es.length
    · obtain ⟨e, hee⟩ : ∃ e, e = es[j] := ⟨_, rfl⟩
      have hel : es[j]? = some e := by rw [hee]; exact List.getElem?_eq_getElem hjl
      obtain ⟨g3, off3, c3', hv3, hg3, t0, t1, t2, t3, t4, t5, t6⟩ := ent_at HN.out.gr.o3 hel
      cases hv3
      have Hel := Lib.hid hel
      have Hwe := Lib.hid (Hw.out e (List.mem_of_getElem? hel))
      clear hee hel hg3
      have hr5 : (wr.alloc (.cells #[.int .i64 e.1.op, .int .i64 e.1.w, .int .u32 e.1.imm, .int .i64 e.1.a0, .int .i64 e.1.a1, .int .i64 e.1.a2, .int .i64 (e.2 : Int)] 87)).heap[wr.heap.size]? = some (.cells #[.int .i64 e.1.op, .int .i64 e.1.w, .int .u32 e.1.imm, .int .i64 e.1.a0, .int .i64 e.1.a1, .int .i64 e.1.a2, .int .i64 (e.2 : Int)] 87 (0, 0)) := heap_alloc_new wr _
      have Hb5 := Lib.hid (show Below wr.heap.size wr (wr.alloc (.cells #[.int .i64 e.1.op, .int .i64 e.1.w, .int .u32 e.1.imm, .int .i64 e.1.a0, .int .i64 e.1.a1, .int .i64 e.1.a2, .int .i64 (e.2 : Int)] 87)) from (Below.refl _ _).alloc (Nat.le_refl _) _)
      go_upto_region 5 with (fail)
      clear t0 t1 t2 t3 t4 t5 t6
      have Hg5 := Lib.hid (HN.out.gr.below Hb5.out)
      have Hbl5 := Lib.hid (HN.out.bel.trans (Hb5.out.mono HN.out.bel.size))
      obtain ⟨X5, hX5⟩ : ∃ X5, X5 = wr.alloc (.cells #[.int .i64 e.1.op, .int .i64 e.1.w, .int .u32 e.1.imm, .int .i64 e.1.a0, .int .i64 e.1.a1, .int .i64 e.1.a2, .int .i64 (e.2 : Int)] 87) := ⟨_, rfl⟩
      rw [← hX5] at hr5 Hg5 Hbl5 ⊢
      have Hkm := Lib.hid (show W.heap.size ≤ km from HN.out.new km (.inr (.inl rfl)))
      have Hnw := Lib.hid HN.out.new
      have Htk := Lib.hid (show es.take (j + 1) = es.take j ++ [e] from by rw [List.take_add_one, Hel.out]; rfl)
      have Hnew := Lib.hid (show e.1 ∉ (es.take j).map Prod.fst from fun hm => by
        have hn := Hnd.out
        have e1 : es = es.take (j + 1) ++ es.drop (j + 1) := (List.take_append_drop _ _).symm
        rw [Htk.out] at e1
        rw [e1, List.map_append, List.nodup_append] at hn
        have h2 := hn.1
        rw [List.map_append, List.nodup_append] at h2
        exact h2.2.2 _ hm _ (by simp) rfl)
      clear hX5 Hb5
      obtain ⟨kl, hkl⟩ := keyOf_op Hwe.out
      obtain ⟨X9, hupd, hgr, hsz, hMp⟩ := (Hg5.out.km.keep (w' := X5.drew) (R' := NatE) rfl (fun _ _ _ h => h)).update opKeyed opV_inj Tryz.underlying77 hkl (.int .i64 (e.2 : Int))
      have hgr' := undrew hgr
      have HN9 := Lib.hid (show NewGr W p wd es (es.take (j + 1)) nm vr X9 gb u1 u2 (.slice (some ⟨g3, off3, none⟩) es.length c5) u4 km from ⟨Hg5.out.know hgr' (by
        have := hMp NatE e.2 (fun _ _ _ _ h => h) rfl
        rw [AL_put_new Hnew.out] at this
        rw [Htk.out]
        exact this), Hbl5.out.grown hgr' Hbl5.out.size (fun g hg => by cases hg; exact Hkm.out), Hnw.out⟩)
      obtain ⟨y0, y1, y2, y3, y4, y5, y6⟩ := ent7_cells hr5
      obtain ⟨_, _, _, k3c, _⟩ := Hg5.out.cells
      unfold opV at hupd
      clear hgr hgr' hsz hMp hkl hr5
      go_region
      clear hupd y0 y1 y2 y3 y4 y5 y6 k3c Hg5 HN
      go_wp2_with fail
      go_roundg (gk - 1)
      case measure => have := Hgk.out; omega
      case rel =>
        have := Hgk.out
        exact ⟨j + 1, by omega, by go_num, by omega, HN9⟩
    · obtain rfl : j = es.length := by omega
      rw [List.take_length] at HN
      go_wp2
      go_ret
      exact ⟨gb, u1, u2, _, u4, km, rfl, HN.out⟩
end Go.Proofs.YtcmlmjbpdaecbaaGreat
