/- Plain: the term of a row has the row's meaning. -/
import Derived.Test.YtableoihgkmbjaaGreatT24
import Derived.Test.YtableoihgkmbjaaGreatQ17
namespace Go.Proofs.YtableoihgkmbjaaGreat
set_option linter.unusedVariables false
set_option linter.unusedSimpArgs false
namespace K

theorem nds_at {k : Nat} {w ones : Int} {row : List Stp} {i : Nat} {x : T.Nd} (h : (nds k w ones row)[i]? = some x) :
    (i < k ∧ x = ndVar w i) ∨ (i = k ∧ x = ndConst w 1) ∨ (i = k + 1 ∧ x = ndConst w ones) ∨ ∃ j s, i = k + 2 + j ∧ row[j]? = some s ∧ x = ndStep w s := by
  unfold nds at h
  rw [List.append_assoc] at h
  rcases Nat.lt_or_ge i k with h1 | h1
  · rw [List.getElem?_append_left (by simpa using h1)] at h
    simp [h1] at h
    exact .inl ⟨h1, h.symm⟩
  · rw [List.getElem?_append_right (by simpa using h1)] at h
    simp only [List.length_map, List.length_range] at h
    rcases hi : i - k with _ | _ | j
    · rw [hi] at h; simp at h
      exact .inr (.inl ⟨by omega, h.symm⟩)
    · rw [hi] at h; simp at h
      exact .inr (.inr (.inl ⟨by omega, h.symm⟩))
    · rw [hi] at h
      have h' : (row.map (ndStep w))[j]? = some x := h
      rw [List.getElem?_map] at h'
      obtain ⟨s, hs, e⟩ := Option.map_eq_some_iff.1 h'
      exact .inr (.inr (.inr ⟨j, s, by omega, hs, e.symm⟩))

theorem nds_get {k : Nat} {w ones : Int} {row : List Stp} :
    (∀ i, i < k → (nds k w ones row)[i]? = some (ndVar w i)) ∧ (nds k w ones row)[k]? = some (ndConst w 1) ∧ (nds k w ones row)[k + 1]? = some (ndConst w ones) ∧ ∀ j s, row[j]? = some s → (nds k w ones row)[k + 2 + j]? = some (ndStep w s) := by
  unfold nds
  rw [List.append_assoc]
  refine ⟨fun i hi => ?_, ?_, ?_, fun j s hs => ?_⟩
  · rw [List.getElem?_append_left (by simpa using hi)]; simp [hi]
  · rw [List.getElem?_append_right (by simp)]; simp
  · rw [List.getElem?_append_right (by simp)]; simp
  · rw [List.getElem?_append_right (by simp; omega)]
    simp only [List.length_map, List.length_range]
    rw [show k + 2 + j - k = j + 2 by omega]
    simp [hs]

theorem nds_w {k : Nat} {w ones : Int} {row : List Stp} {i : Nat} {x : T.Nd} (h : (nds k w ones row)[i]? = some x) : x.w = w := by
  rcases nds_at h with ⟨_, rfl⟩ | ⟨_, rfl⟩ | ⟨_, rfl⟩ | ⟨_, _, _, _, rfl⟩ <;> rfl

/-- a front part of the nodes -/
structure Front (t : List T.Nd) (k : Nat) (w : Nat) (row : List Stp) : Prop where
  at_ : ∀ (i : Nat) (x : T.Nd), t[i]? = some x → (nds k w (B.pw w - 1) row)[i]? = some x
  pos : 1 ≤ t.length
  le : t.length ≤ 300

theorem term_front {k w : Nat} (hk : k = 1 ∨ k = 2) {row : List Stp} (hr : row.length ≤ 2) : Front (term k w (B.pw w - 1) row) k w row := by
  have hl := nds_len k w (B.pw w - 1) row
  unfold term
  split
  · exact ⟨fun i x hx => (by rw [List.getElem?_take] at hx; split at hx; exact hx; cases hx), by rw [List.length_take]; omega, by rw [List.length_take]; omega⟩
  · exact ⟨fun i x hx => hx, by omega, by omega⟩

theorem ops_13 {o : Int} (h : o ∈ ops) : 1 ≤ o ∧ o ≤ 13 := ops_range h

theorem shaped_mk {k : Nat} {x : T.Nd} (h1 : 0 ≤ T.ar x.op) (h2 : 1 ≤ x.w) (h3 : x.w ≤ 32) (h4 : x.fl = 0) (h5 : (x.args.length : Int) = T.ar x.op) (h6 : T.immOk x = true) (h7 : x.op ≠ 14) (h8 : ∀ a ∈ x.args, 0 ≤ a ∧ a < (k : Int)) : T.shaped true k x = true := by
  have h9 : T.argsOk k x.args = true := by
    unfold T.argsOk
    rw [List.all_eq_true]
    intro a ha
    have := h8 a ha
    simp [this.1, this.2]
  unfold T.shaped
  rw [h6, h9]
  simp [h1, h2, h3, h4, h5, h7]

theorem front_shaped {k w : Nat} (hk : k = 1 ∨ k = 2) (hw : 1 ≤ w ∧ w ≤ 3) {row : List Stp} (hrow : okRow k row) {t : List T.Nd} (h : Front t k w row) {i : Nat} {x : T.Nd} (hx : t[i]? = some x) : T.shaped true i x = true := by
  have hp2 : B.pw (w : Int) ≥ 2 := B.pw_ge2 (by omega)
  have hwd : B.isWd (w : Int) = true := B.isWd_iff.2 (by omega)
  rcases nds_at (h.at_ i x hx) with ⟨hi, rfl⟩ | ⟨hi, rfl⟩ | ⟨hi, rfl⟩ | ⟨j, s, hi, hs, rfl⟩
  · exact shaped_mk (by decide : (0 : Int) ≤ T.ar 33) (by show (1 : Int) ≤ w; omega) (by show (w : Int) ≤ 32; omega) rfl rfl (by show decide ((i : Int) < 4) = true; rw [decide_eq_true_eq]; omega) (by decide : (33 : Int) ≠ 14) (fun a ha => by cases ha)
  · exact shaped_mk (by decide : (0 : Int) ≤ T.ar 0) (by show (1 : Int) ≤ w; omega) (by show (w : Int) ≤ 32; omega) rfl rfl (by show B.isW w 1 = true; unfold B.isW; rw [hwd, Bool.true_and, decide_eq_true_eq]; omega) (by decide : (0 : Int) ≠ 14) (fun a ha => by cases ha)
  · exact shaped_mk (by decide : (0 : Int) ≤ T.ar 0) (by show (1 : Int) ≤ w; omega) (by show (w : Int) ≤ 32; omega) rfl rfl (by show B.isW w (B.pw w - 1) = true; unfold B.isW; rw [hwd, Bool.true_and, decide_eq_true_eq]; omega) (by decide : (0 : Int) ≠ 14) (fun a ha => by cases ha)
  · obtain ⟨o1, a0, a1, b0, b1⟩ := hrow j s hs
    have har : T.ar s.1 = 2 ∧ s.1 ≠ 14 := by
      have : s.1 = 1 ∨ s.1 = 2 ∨ s.1 = 8 ∨ s.1 = 9 ∨ s.1 = 10 ∨ s.1 = 11 ∨ s.1 = 12 := by simpa [ops] using o1
      rcases this with e | e | e | e | e | e | e <;> rw [e] <;> decide
    have ho := ops_13 o1
    have him : T.immOk (ndStep w s) = true := by
      unfold T.immOk ndStep
      dsimp only
      rw [if_neg (by omega), if_neg (by omega), if_neg (by omega)]
      rfl
    refine shaped_mk (by show 0 ≤ T.ar s.1; omega) (by show (1 : Int) ≤ w; omega) (by show (w : Int) ≤ 32; omega) rfl (by show (2 : Int) = T.ar s.1; omega) him har.2 (fun a ha => ?_)
    have : a = s.2.1 ∨ a = s.2.2 := by simpa [ndStep] using ha
    rcases this with rfl | rfl <;> omega

theorem front_wd {k w : Nat} {row : List Stp} {t : List T.Nd} (h : Front t k w row) {j : Nat} (hj : j < t.length) : (t.getD j default).w = w := by
  rw [T.getD_lt hj]
  exact nds_w (h.at_ j _ (List.getElem?_eq_getElem hj))

theorem front_typed {k w : Nat} {row : List Stp} (hrow : okRow k row) {t : List T.Nd} (h : Front t k w row) {i : Nat} {x : T.Nd} (hx : t[i]? = some x) : T.typed t x = true := by
  have hil := (List.getElem?_eq_some_iff.1 hx).1
  unfold T.typed
  rcases nds_at (h.at_ i x hx) with ⟨hi, rfl⟩ | ⟨hi, rfl⟩ | ⟨hi, rfl⟩ | ⟨j, s, hi, hs, rfl⟩
  · simp [ndVar]
  · simp [ndConst]
  · simp [ndConst]
  · obtain ⟨o1, a0, a1, b0, b1⟩ := hrow j s hs
    have ho := ops_13 o1
    rw [if_pos (by exact ho)]
    have e0 : T.wd t (ndStep w s) 0 = w := by
      unfold T.wd
      show (t.getD s.2.1.toNat default).w = w
      exact front_wd h (by omega)
    have e1 : T.wd t (ndStep w s) 1 = w := by
      unfold T.wd
      show (t.getD s.2.2.toNat default).w = w
      exact front_wd h (by omega)
    rw [e0, e1]
    simp [ndStep]

theorem front_valid {k w : Nat} (hk : k = 1 ∨ k = 2) (hw : 1 ≤ w ∧ w ≤ 3) {row : List Stp} (hrow : okRow k row) {t : List T.Nd} (h : Front t k w row) : T.valid true t = 0 := by
  unfold T.valid
  rw [if_neg (by have := h.pos; have := h.le; omega), if_neg, if_neg, if_neg]
  · have : T.clashes t = false := T.clashes_iff.2 fun i j x y _ hx hy => by
      have e1 := nds_w (h.at_ i x hx)
      have e2 := nds_w (h.at_ j y hy)
      unfold T.clash
      rw [e1, e2]
      simp
    rw [this]
    simp
  · have : (t.all (T.typed t)) = true := by
      rw [List.all_eq_true]
      intro x hx
      obtain ⟨i, hi⟩ := List.mem_iff_getElem?.1 hx
      exact front_typed hrow h hi
    rw [this]
    simp
  · have := T.shaped_all.2 fun i x hx => front_shaped hk hw hrow h hx
    rw [this]
    simp

theorem front_asked {k w : Nat} (hk : k = 1 ∨ k = 2) (hw : 1 ≤ w ∧ w ≤ 3) {row : List Stp} (hrow : okRow k row) {t : List T.Nd} (h : Front t k w row) : askedT t k w = 0 := by
  have hwid : ∀ (v : Nat) (z : Int), (T.widths t)[v]? = some z → z ≠ 0 → z = w ∧ v < k := by
    intro v z hz hz0
    obtain ⟨i, y, hy, h33, hv, hyw⟩ := T.widths_mem hz hz0
    refine ⟨by rw [← hyw]; exact nds_w (h.at_ i y hy), ?_⟩
    rcases nds_at (h.at_ i y hy) with ⟨hi, rfl⟩ | ⟨hi, rfl⟩ | ⟨hi, rfl⟩ | ⟨j, s, hi, hs, rfl⟩
    · simp [ndVar] at hv; omega
    · simp [ndConst] at h33
    · simp [ndConst] at h33
    · have := ops_13 (hrow j s hs).1
      simp [ndStep] at h33
      omega
  unfold askedT
  rw [if_neg (by rw [front_valid hk hw hrow h]; simp), if_neg (by rw [over_iff.2 (by omega)]; simp), if_neg, if_neg]
  · rw [Int.toNat_natCast]
    intro hm
    unfold more at hm
    obtain ⟨z, hz, h0⟩ := List.any_eq_true.1 hm
    obtain ⟨v, hv⟩ := List.mem_iff_getElem?.1 hz
    rw [List.getElem?_drop] at hv
    have := (hwid _ _ hv (by simpa using h0)).2
    omega
  · rintro (h1 | h1)
    · exact h1 (front_wd h (by have := h.pos; omega))
    · unfold odd at h1
      obtain ⟨z, hz, h0⟩ := List.any_eq_true.1 h1
      obtain ⟨v, hv⟩ := List.mem_iff_getElem?.1 hz
      simp at h0
      exact h0.2 (hwid _ _ hv h0.1).1

theorem vals_front (w : Nat) (r : List Stp) : ∀ (l : List Int) (i : Nat), i ≤ r.length → (vals w l r).take (l.length + i) = vals w l (r.take i) := by
  induction r with
  | nil => intro l i hi; simp at hi; subst hi; simp [vals_nil]
  | cons s r ih =>
    intro l i hi
    cases i with
    | zero =>
      rw [vals_cons, List.take_zero, vals_nil]
      have := ih (l ++ [stepv w l s]) 0 (by omega)
      simp only [List.length_append, List.length_singleton, Nat.add_zero, List.take_zero, vals_nil] at this
      have h2 : (vals w (l ++ [stepv w l s]) r).take (l.length + 0) = ((vals w (l ++ [stepv w l s]) r).take (l.length + 1)).take l.length := by
        rw [List.take_take]; congr 1; omega
      rw [h2, this]
      simp
    | succ i =>
      rw [vals_cons, List.take_succ_cons, vals_cons]
      have := ih (l ++ [stepv w l s]) i (by simpa using hi)
      rw [← this]
      congr 1
      simp
      omega

theorem front_vals {k w : Nat} (hk : k = 1 ∨ k = 2) (hw : 1 ≤ w ∧ w ≤ 3) {row : List Stp} (hrow : okRow k row) {t : List T.Nd} (h : Front t k w row) {a : Nat} (ha : a < size k w) :
    ∀ j, j ≤ t.length → T.valsTo t (envOf (inp k w a)) j = (vals w (base w (inp k w a)) row).take j := by
  have hl := inp_len (w := w) (i := a) hk
  have hbl : (base w (inp k w a)).length = k + 2 := base_len hk
  have hWd := (Wd.base hk hw.1 ha).vals row
  have hLl : (vals w (base w (inp k w a)) row).length = k + 2 + row.length := by rw [vals_len, hbl]
  have hpre : ∀ i, i ≤ row.length → (vals w (base w (inp k w a)) row).take (k + 2 + i) = vals w (base w (inp k w a)) (row.take i) := fun i hi => by
    have := vals_front w row (base w (inp k w a)) i hi
    rwa [hbl] at this
  have hbase : ∀ i, i < k + 2 → (vals w (base w (inp k w a)) row)[i]? = (base w (inp k w a))[i]? := fun i hi => by
    have := hpre 0 (by omega)
    rw [List.take_zero, vals_nil, Nat.add_zero] at this
    have h2 : ((vals w (base w (inp k w a)) row).take (k + 2))[i]? = (vals w (base w (inp k w a)) row)[i]? := by rw [List.getElem?_take, if_pos hi]
    rw [← h2, this]
  intro j
  induction j with
  | zero => intro _; rfl
  | succ j ih =>
    intro hj
    have ih := ih (by omega)
    have hx := List.getElem?_eq_getElem (show j < t.length by omega)
    have hgd : t.getD j default = t[j] := T.getD_lt (by omega)
    have hjL : j < (vals w (base w (inp k w a)) row).length := by
      have := (List.getElem?_eq_some_iff.1 (h.at_ j _ hx)).1
      rw [nds_len] at this
      omega
    rw [T.valsTo, hgd, ih, List.take_succ_eq_append_getElem hjL]
    congr 1
    have hLj := List.getElem?_eq_getElem hjL
    generalize hLe : (vals w (base w (inp k w a)) row)[j] = Lj at hLj ⊢
    congr 1
    rcases nds_at (h.at_ j _ hx) with ⟨hi, e⟩ | ⟨hi, e⟩ | ⟨hi, e⟩ | ⟨q, s, hi, hs, e⟩
    · rw [e, T.val_33 rfl]
      rw [hbase j (by omega)] at hLj
      unfold base at hLj
      rw [List.getElem?_append_left (by omega)] at hLj
      show (envOf (inp k w a)).getD ((j : Int)).toNat 0 = Lj
      rw [Int.toNat_natCast]
      unfold envOf
      rw [T.getD_l (by omega)]
      exact getD_of hLj
    · rw [e, T.val_0 rfl]
      rw [hbase j (by omega), hi] at hLj
      unfold base at hLj
      rw [List.getElem?_append_right (by omega), hl, Nat.sub_self] at hLj
      exact Option.some.inj hLj
    · rw [e, T.val_0 rfl]
      rw [hbase j (by omega), hi] at hLj
      unfold base at hLj
      rw [List.getElem?_append_right (by omega), hl, show k + 1 - k = 1 by omega] at hLj
      exact Option.some.inj hLj
    · obtain ⟨o1, a0, a1, b0, b1⟩ := hrow q s hs
      have ho := ops_13 o1
      have hql : q < row.length := (List.getElem?_eq_some_iff.1 hs).1
      rw [e, T.val_bin (by show s.1 ≠ 0; omega) (by show s.1 < 14; omega)]
      have h1 := hpre (q + 1) (by omega)
      rw [vals_take w _ row hs, ← hpre q (by omega)] at h1
      have h2 : (vals w (base w (inp k w a)) row)[k + 2 + q]? = some (stepv w ((vals w (base w (inp k w a)) row).take (k + 2 + q)) s) := by
        have h3 : ((vals w (base w (inp k w a)) row).take (k + 2 + (q + 1)))[k + 2 + q]? = some (stepv w ((vals w (base w (inp k w a)) row).take (k + 2 + q)) s) := by
          rw [h1, List.getElem?_append_right (by rw [List.length_take]; omega)]
          have : k + 2 + q - ((vals w (base w (inp k w a)) row).take (k + 2 + q)).length = 0 := by rw [List.length_take]; omega
          rw [this]
          rfl
        rw [List.getElem?_take, if_pos (by omega)] at h3
        exact h3
      rw [← hi, hLj] at h2
      rw [Option.some.inj h2]
      unfold stepv
      show B.full s.1 w (T.at_ _ (ndStep w s) 0) (T.at_ _ (ndStep w s) 1) = _
      have hT : ∀ i, 0 ≤ ((vals w (base w (inp k w a)) row).take j).getD i 0 ∧ ((vals w (base w (inp k w a)) row).take j).getD i 0 < B.pw w := by
        have : Wd w ((vals w (base w (inp k w a)) row).take j) := fun x hx => hWd x (List.mem_of_mem_take hx)
        exact this.at
      have hA := hT s.2.1.toNat
      have hB := hT s.2.2.toNat
      unfold B.total
      rw [if_pos]
      · rfl
      · unfold B.okOp B.isW
        rw [B.isWd_iff.2 (by omega)]
        simp [ho.1, ho.2, hA.2, hB.2]
        exact ⟨hA.2, hB.2⟩

theorem term_table {k w : Nat} (hk : k = 1 ∨ k = 2) (hw : 1 ≤ w ∧ w ≤ 3) {row : List Stp} (hr : row.length ≤ 2) (hrow : okRow k row) : tblOf (term k w (B.pw w - 1) row) k w = meaning k w row := by
  have hf := term_front (w := w) hk hr
  unfold tblOf meaning inputs
  rw [List.map_map, List.map_map]
  refine List.map_congr_left fun a ha => ?_
  have ha : a < size k w := List.mem_range.1 ha
  have hv := front_vals hk hw hrow hf ha _ (Nat.le_refl _)
  have hbl : (base w (inp k w a)).length = k + 2 := base_len hk
  have hLl : (vals w (base w (inp k w a)) row).length = k + 2 + row.length := by rw [vals_len, hbl]
  simp only [Function.comp_def]
  unfold T.vals
  rw [hv]
  unfold resultOf
  by_cases h0 : row.length = 0
  · have hl : (term k w (B.pw w - 1) row).length = 1 := by
      unfold term
      rw [if_pos h0, List.length_take, nds_len]; omega
    rw [if_pos h0, hl]
    simp only [List.getD_eq_getElem?_getD]
    rw [List.getElem?_take, if_pos (by omega)]
  · have hl : (term k w (B.pw w - 1) row).length = k + 2 + row.length := by
      unfold term
      rw [if_neg h0, nds_len]
    rw [if_neg h0, hl, List.take_of_length_le (by omega), hLl]
end K
end Go.Proofs.YtableoihgkmbjaaGreat
