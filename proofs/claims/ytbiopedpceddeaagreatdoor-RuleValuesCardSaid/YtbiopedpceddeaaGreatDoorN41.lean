/- Merged: QPV, QPCov, QPV2, QT15. -/
import Derived.Test.YtbiopedpceddeaaGreatDoorN40
import Derived.Test.YtbiopedpceddeaaGreatDoorN17
import Derived.Test.YtbiopedpceddeaaGreatDoorN05
import Derived.Test.YtbiopedpceddeaaGreatDoorN36
set_option linter.unusedVariables false
set_option linter.unusedSimpArgs false
section
namespace Go.Proofs.YtbiopedpceddeaaGreatDoor
set_option linter.unusedVariables false
set_option linter.unusedSimpArgs false
namespace V
open T

/-- a tree stands in a forest -/
def subF : F → F → Prop
  | .nil, _ => False
  | .cons op w fl imm kids rest, g => g = .cons op w fl imm kids .nil ∨ subF kids g ∨ subF rest g
theorem sub_from {p : List Nd} {la : List Int} {f : F} (r : Rep p la f) {g : F} : subF f g ↔ ∃ k, R.From p la k ∧ Rep p [(k : Int)] g := by
  induction r with
  | nil =>
    refine ⟨fun h => h.elim, ?_⟩
    rintro ⟨k, h, h'⟩
    exfalso
    clear h'
    induction h with
    | here ha => cases ha
    | next _ _ _ ih => exact ih
  | @cons a la x kids rest h0 hx hk hr ih1 ih2 =>
    simp only [subF]
    have ha : ((a.toNat : Nat) : Int) = a := by omega
    constructor
    · rintro (rfl | h | h)
      · exact ⟨a.toNat, .here (by simp), by rw [ha]; exact .cons h0 hx hk .nil⟩
      · obtain ⟨k, h1, h2⟩ := ih1.1 h
        exact ⟨k, h1.sub fun b hb => .next (.here (by simp)) hx hb, h2⟩
      · obtain ⟨k, h1, h2⟩ := ih2.1 h
        exact ⟨k, h1.sub fun b hb => .here (by simp [hb]), h2⟩
    · rintro ⟨k, h1, h2⟩
      have : k = a.toNat ∨ R.From p x.args k ∨ R.From p la k := by
        clear h2
        induction h1 with
        | here ha =>
          rcases List.mem_cons.1 ha with rfl | ha
          · exact .inl rfl
          · exact .inr (.inr (.here ha))
        | next _ hy hb ih =>
          rcases ih with rfl | h | h
          · rw [hx] at hy
            cases hy
            exact .inr (.inl (.here hb))
          · exact .inr (.inl (.next h hy hb))
          · exact .inr (.inr (.next h hy hb))
      rcases this with rfl | h | h
      · rw [ha] at h2
        exact .inl (h2.det (.cons h0 hx hk .nil))
      · exact .inr (.inl (ih1.2 ⟨k, h, h2⟩))
      · exact .inr (.inr (ih2.2 ⟨k, h, h2⟩))

/-- each tree of a list has a property -/
def CovP (P : F → Prop) (out : List Nd) : Prop := ∀ (i : Int) (g : F), Rep out [i] g → P g
theorem covP_add {P : F → Prop} {out : List Nd} {y : Nd} {kids : F} (hc : CovP P out) (ho : Ord out) (hy : ∀ a ∈ y.args, 0 ≤ a ∧ a < (out.length : Int)) (hk : Rep out y.args kids) (ht : P (.cons y.op y.w y.fl y.imm kids .nil)) : CovP P (addN out y).1 := by
  unfold addN
  by_cases hm : y ∈ out
  · rw [if_pos hm]; exact hc
  · rw [if_neg hm]
    intro i f r
    rcases Int.lt_or_le i out.length with hi | hi
    · exact hc i f (r.cut ho hi)
    · cases r with
      | @cons _ _ x kids' rest h0 hx hk' hr =>
        cases hr
        have hi' : i.toNat = out.length := by
          have := (List.getElem?_eq_some_iff.1 hx).1
          simp at this
          omega
        rw [hi'] at hx
        simp at hx
        subst hx
        have e := (hk.mono (u := out ++ [y]) (fun k x hx => pre_at (List.prefix_append _ _) k x hx)).det hk'
        subst e
        exact ht
theorem cnn_covP {P : F → Prop} (f : F) : ∀ {out : List Nd}, (∀ g, subF f g → P g) → out.Nodup → Ord out → CovP P out → CovP P (cnn f out).1 := by
  induction f with
  | nil => intro out _ _ _ hc; exact hc
  | cons op w fl imm kids rest ih1 ih2 =>
    intro out hP hn ho hc
    have t1 := cnn_told kids hn ho
    have c1 := ih1 (fun g hg => hP g (.inr (.inl hg))) hn ho hc
    simp only [cnn]
    have s2 := addN_spec (y := ⟨op, w, fl, (cnn kids out).2, imm⟩) t1.nd
    have o2 := addN_ord (y := ⟨op, w, fl, (cnn kids out).2, imm⟩) t1.ord t1.lo
    exact ih2 (fun g hg => hP g (.inr (.inr hg))) s2.2.1 o2 (covP_add c1 t1.ord t1.lo t1.rep (hP _ (.inl rfl)))
theorem canon_sub {f : F} {j : Nat} {g : F} (h : Rep (canon f) [(j : Int)] g) : subF f g :=
  cnn_covP (P := subF f) f (fun _ h => h) List.nodup_nil ord_nil (fun i g r => by cases r with | cons h0 hx _ _ => simp at hx) _ _ h
theorem canon_ord (f : F) : Ord (canon f) := (cnn_told f List.nodup_nil ord_nil).ord
theorem canon_rep (f : F) : Rep (canon f) (cnn f []).2 f := (cnn_told f List.nodup_nil ord_nil).rep
theorem sub_canon {f : F} {g : F} (h : subF f g) : ∃ j, Rep (canon f) [(j : Int)] g := by
  obtain ⟨j, _, hj⟩ := (sub_from (canon_rep f)).1 h
  exact ⟨j, hj⟩

/-- the value of node k, all values told -/
theorem valsTo_get (t : List Nd) (env : List Int) : ∀ (j i : Nat), i < j → (valsTo t env j).getD i 0 = val t (valsTo t env i) env (t.getD i default) := by
  intro j
  induction j with
  | zero => intro i h; omega
  | succ j ih =>
    intro i h
    rw [valsTo]
    by_cases e : i = j
    · subst e
      have := getD_end (l := valsTo t env i) (d := (0 : Int)) (a := val t (valsTo t env i) env (t.getD i default))
      rw [valsTo_len] at this
      exact this
    · rw [getD_l (by rw [valsTo_len]; omega)]
      exact ih i (by omega)
theorem vals_at {t : List Nd} {env : List Int} (i q : Nat) (h : q < i) (h2 : i ≤ t.length) : (valsTo t env i).getD q 0 = (vals t env).getD q 0 := by
  unfold vals
  rw [valsTo_get _ _ _ _ h, valsTo_get _ _ _ _ (by omega : q < t.length)]

/-- two nodes alike, of which the operands' values and widths are alike, have one value -/
theorem val_congr {t u : List Nd} {vs us env : List Int} {x y : Nd} (ho : x.op = y.op) (hw : x.w = y.w) (hi : x.imm = y.imm) (hn : Nod t env vs x)
    (ha : ∀ q, q < x.args.length → at_ vs x q = at_ us y q) (hd : ∀ q, q < x.args.length → T.wd t x q = T.wd u y q) : val t vs env x = val u us env y := by
  unfold val
  rw [← ho, ← hw, ← hi]
  by_cases h0 : x.op = 0
  · rw [if_pos h0, if_pos h0]
  rw [if_neg h0, if_neg h0]
  by_cases h33 : x.op = 33
  · rw [if_pos h33, if_pos h33]
  rw [if_neg h33, if_neg h33]
  by_cases h14 : x.op = 14
  · obtain ⟨l, _⟩ := hn.cmp h14
    rw [if_pos h14, if_pos h14, ha 0 (by omega), ha 1 (by omega), hd 0 (by omega)]
  rw [if_neg h14, if_neg h14]
  by_cases h15 : x.op = 15
  · obtain ⟨l, _, _, h⟩ := hn.ite h15
    rw [if_pos h15, if_pos h15, ← ha 0 (by omega)]
    refine ha _ ?_
    rcases h with h | h <;> rw [h] <;> omega
  rw [if_neg h15, if_neg h15]
  by_cases h16 : 16 ≤ x.op
  · obtain ⟨l, _⟩ := hn.ext h16 h33
    rw [if_pos h16, if_pos h16, ha 0 (by omega), hd 0 (by omega)]
  · obtain ⟨l, _⟩ := hn.bin h0 (by omega)
    rw [if_neg h16, if_neg h16, ha 0 (by omega), ha 1 (by omega)]

theorem std_ord {t : List Nd} {env : List Int} (h : Std t env) : Ord t := fun k x hx => (shaped_args (h.sh k x hx)).2.2.2.2.2
/-- the value of a node by all values -/
theorem vals_val {t : List Nd} {env : List Int} (h : Std t env) {k : Nat} {x : Nd} (hx : t[k]? = some x) : (vals t env).getD k 0 = val t (vals t env) env x := by
  have hk := (List.getElem?_eq_some_iff.1 hx).1
  have e : t.getD k default = x := by rw [List.getD_eq_getElem?_getD, hx]; rfl
  unfold vals
  rw [valsTo_get _ _ _ _ hk, e]
  have hn := h.nod (valsTo_words h k (by omega)) (by rw [valsTo_len]; exact hx)
  refine val_congr rfl rfl rfl hn (fun q hq => ?_) (fun _ _ => rfl)
  have hlo := hn.lo q hq
  rw [valsTo_len] at hlo
  exact vals_at _ _ (by omega) (by omega)
theorem nod_all {t : List Nd} {env : List Int} (h : Std t env) {k : Nat} {x : Nd} (hx : t[k]? = some x) : Nod t env (vals t env) x := by
  have hk := (List.getElem?_eq_some_iff.1 hx).1
  have hn := h.nod (valsTo_words h k (by omega)) (by rw [valsTo_len]; exact hx)
  have hl : ∀ i, i < x.args.length → at_ (valsTo t env k) x i = at_ (vals t env) x i := fun q hq => by
    have hlo := hn.lo q hq
    rw [valsTo_len] at hlo
    exact vals_at _ _ (by omega) (by omega)
  exact ⟨hn.w0, hn.w1, hn.i0, hn.len, hn.ar0, fun i hi => by have := hn.lo i hi; rw [valsTo_len] at this; rw [vals_len]; omega, hn.wd, fun i hi => by rw [← hl i hi]; exact hn.at_ i hi, hn.imm, hn.ty⟩

/-- nodes that stand for one forest have the same values and widths -/
theorem vals_two {t u : List Nd} {env : List Int} (ht : Std t env) (hu : Std u env) {la : List Int} {f : F} (r : Rep t la f) : ∀ {lb : List Int}, Rep u lb f → la.length = lb.length ∧ ∀ i, i < la.length → (vals t env).getD (la.getD i 0).toNat 0 = (vals u env).getD (lb.getD i 0).toNat 0 ∧ (t.getD (la.getD i 0).toNat default).w = (u.getD (lb.getD i 0).toNat default).w := by
  induction r with
  | nil =>
    intro lb s
    cases s
    exact ⟨rfl, fun i h => by simp at h⟩
  | @cons a la x kids rest h0 hx hk hr ih1 ih2 =>
    intro lb s
    generalize ho : x.op = o at s
    generalize hw : x.w = w at s
    generalize hf : x.fl = fl at s
    generalize hi : x.imm = im at s
    cases s with
    | @cons b lb y _ _ g0 hy hk' hr' =>
      obtain ⟨l1, l2⟩ := ih2 hr'
      refine ⟨by simp [l1], fun i hi2 => ?_⟩
      cases i with
      | zero =>
        simp only [List.getD_cons_zero]
        obtain ⟨m1, m2⟩ := ih1 hk'
        refine ⟨?_, by rw [List.getD_eq_getElem?_getD, List.getD_eq_getElem?_getD, hx, hy]; exact hw⟩
        rw [vals_val ht hx, vals_val hu hy]
        exact val_congr ho hw hi (nod_all ht hx) (fun q hq => (m2 q hq).1) (fun q hq => (m2 q hq).2)
      | succ i =>
        simp only [List.getD_cons_succ]
        exact l2 i (by simpa using hi2)

/-- how a node is: 0 a value, 1 poison, 2 undefined -/
def wrs (vs : List Int) (x : Nd) : Int := if 1 ≤ x.op ∧ x.op ≤ 13 then B.worse x.op x.fl x.w (at_ vs x 0) (at_ vs x 1) else 0
theorem worse_range (op fl n a b : Int) : 0 ≤ B.worse op fl n a b ∧ B.worse op fl n a b ≤ 2 := by
  unfold B.worse
  split
  · omega
  · split <;> omega
theorem wrs_range (vs : List Int) (x : Nd) : 0 ≤ wrs vs x ∧ wrs vs x ≤ 2 := by
  unfold wrs
  split
  · exact worse_range _ _ _ _ _
  · omega
/-- the worst of the first nodes that are asked -/
def badTo (t : List Nd) (need : List Bool) (vs : List Int) : Nat → Int
  | 0 => 0
  | j + 1 => max (badTo t need vs j) (if need.getD j false = true then wrs vs (t.getD j default) else 0)
theorem bad_range (t : List Nd) (need : List Bool) (vs : List Int) (j : Nat) : 0 ≤ badTo t need vs j ∧ badTo t need vs j ≤ 2 := by
  induction j with
  | zero => exact ⟨Int.le_refl _, show (0 : Int) ≤ 2 by omega⟩
  | succ j ih =>
    rw [badTo]
    have := wrs_range vs (t.getD j default)
    split <;> omega
theorem bad_le {t : List Nd} {need : List Bool} {vs : List Int} {m : Int} (hm : 0 ≤ m) {j : Nat} : badTo t need vs j ≤ m ↔ ∀ k, k < j → need.getD k false = true → wrs vs (t.getD k default) ≤ m := by
  induction j with
  | zero => exact ⟨fun _ k h => by omega, fun _ => hm⟩
  | succ j ih =>
    rw [badTo]
    constructor
    · intro h k hk hn
      by_cases e : k = j
      · subst e
        rw [if_pos hn] at h
        omega
      · exact ih.1 (by omega) k (by omega) hn
    · intro h
      have h1 := ih.2 fun k hk hn => h k (by omega) hn
      split
      · rename_i hn
        have := h j (by omega) hn
        omega
      · omega

/-- how a term is: of its own nodes that lead to the root -/
def bad (t : List Nd) (env : List Int) : Int := badTo t (R.need t) (vals t env) t.length
/-- the same, of the list without equal nodes -/
def badL (l : List Nd) (env : List Int) : Int := badTo l (List.replicate l.length true) (vals l env) l.length

theorem wrs_two {t u : List Nd} {env : List Int} (ht : Std t env) (hu : Std u env) {i j : Nat} {g : F} (r : Rep t [(i : Int)] g) (s : Rep u [(j : Int)] g) : wrs (vals t env) (t.getD i default) = wrs (vals u env) (u.getD j default) := by
  cases r with
  | @cons _ _ x kids rest h0 hx hk hr =>
    cases hr
    generalize ho : x.op = o at s
    generalize hw : x.w = w at s
    generalize hf : x.fl = fl at s
    generalize hi : x.imm = im at s
    cases s with
    | @cons _ _ y _ _ g0 hy hk' hr' =>
      rw [Int.toNat_natCast] at hx hy
      have e1 : t.getD i default = x := by rw [List.getD_eq_getElem?_getD, hx]; rfl
      have e2 : u.getD j default = y := by rw [List.getD_eq_getElem?_getD, hy]; rfl
      rw [e1, e2]
      obtain ⟨m1, m2⟩ := vals_two ht hu hk hk'
      unfold wrs
      rw [ho, hw, hf]
      split
      · rename_i h
        have hn := (nod_all ht hx).bin (by omega) (by omega)
        have a0 := (m2 0 (by omega)).1
        have a1 := (m2 1 (by omega)).1
        unfold at_
        rw [a0, a1]
      · rfl
theorem rep_lt {t : List Nd} {k : Nat} {g : F} (r : Rep t [(k : Int)] g) : k < t.length := by
  cases r with
  | cons h0 hx _ _ => rw [Int.toNat_natCast] at hx; exact (List.getElem?_eq_some_iff.1 hx).1
/-- both are one -/
theorem bad_canon {t : List Nd} {env : List Int} (hp : 0 < t.length) (ht : Std t env) {f : F} (hf : Rep t [((t.length : Int) - 1)] f) (hL : Std (canon f) env) : bad t env = badL (canon f) env := by
  have ho := std_ord ht
  have key : ∀ m : Int, 0 ≤ m → (bad t env ≤ m ↔ badL (canon f) env ≤ m) := fun m hm => by
    unfold bad badL
    rw [bad_le hm, bad_le hm]
    constructor
    · intro h j hj _
      obtain ⟨g, hg⟩ := Rep.one (canon_ord f) hj
      obtain ⟨k, hk, hr⟩ := (sub_from hf).1 (canon_sub hg)
      rw [← wrs_two ht hL hr hg]
      exact h k (rep_lt hr) ((R.need_iff ho hp).2 hk)
    · intro h k hk hn
      obtain ⟨g, hg⟩ := Rep.one ho hk
      obtain ⟨j, hj⟩ := sub_canon ((sub_from hf).2 ⟨k, (R.need_iff ho hp).1 hn, hg⟩)
      have hj0 : 0 ≤ j := by cases hj with | cons h0 _ _ _ => exact h0
      obtain ⟨j', rfl⟩ : ∃ j' : Nat, j = j' := ⟨j.toNat, by omega⟩
      rw [wrs_two ht hL hg hj]
      have hjl := rep_lt hj
      exact h j' hjl (by rw [List.getD_eq_getElem?_getD, List.getElem?_replicate, if_pos hjl]; rfl)
  have h1 := bad_range t (R.need t) (vals t env) t.length
  have h2 := bad_range (canon f) (List.replicate (canon f).length true) (vals (canon f) env) (canon f).length
  have a := (key (bad t env) h1.1).1 (Int.le_refl _)
  have b := (key (badL (canon f) env) h2.1).2 (Int.le_refl _)
  omega
end V
end Go.Proofs.YtbiopedpceddeaaGreatDoor
end
section
namespace Go.Proofs.YtbiopedpceddeaaGreatDoor
set_option linter.unusedVariables false
set_option linter.unusedSimpArgs false
namespace V
open T
theorem rep2 {t u : List Nd} {la : List Int} {f : F} (r : Rep t la f) : ∀ {lb : List Int}, Rep u lb f → la.length = lb.length ∧ ∀ i, i < la.length → (t.getD (la.getD i 0).toNat default).w = (u.getD (lb.getD i 0).toNat default).w := by
  induction r with
  | nil =>
    intro lb s
    cases s
    exact ⟨rfl, fun i h => by simp at h⟩
  | @cons a la x kids rest h0 hx hk hr ih1 ih2 =>
    intro lb s
    generalize ho : x.op = o at s
    generalize hw : x.w = w at s
    generalize hf : x.fl = fl at s
    generalize hi : x.imm = im at s
    cases s with
    | @cons b lb y _ _ g0 hy hk' hr' =>
      obtain ⟨l1, l2⟩ := ih2 hr'
      refine ⟨by simp [l1], fun i hi => ?_⟩
      cases i with
      | zero =>
        simp only [List.getD_cons_zero]
        rw [List.getD_eq_getElem?_getD, List.getD_eq_getElem?_getD, hx, hy]
        exact hw
      | succ i =>
        simp only [List.getD_cons_succ]
        exact l2 i (by simpa using hi)
theorem node_match {t L : List Nd} (hc : Cov t L) (ho : Ord L) {j : Nat} {y : Nd} (hy : L[j]? = some y) : ∃ (k : Nat) (x : Nd), t[k]? = some x ∧ x.op = y.op ∧ x.w = y.w ∧ x.fl = y.fl ∧ x.imm = y.imm ∧ x.args.length = y.args.length ∧ ∀ i, i < y.args.length → wd t x i = wd L y i := by
  obtain ⟨g, hg⟩ := Rep.one ho (List.getElem?_eq_some_iff.1 hy).1
  obtain ⟨k, hk⟩ := hc _ g hg
  cases hg with
  | @cons _ _ y' kids _ g0 hy' hky hr =>
    rw [Int.toNat_natCast, hy] at hy'
    cases hy'
    generalize ho : y.op = o at hk
    generalize hw : y.w = w at hk
    generalize hf : y.fl = fl at hk
    generalize hi : y.imm = im at hk
    cases hk with
    | @cons _ _ x _ _ k0 hx hkx _ =>
      obtain ⟨r1, r2⟩ := rep2 hkx hky
      exact ⟨_, x, hx, ho.symm ▸ rfl, hw.symm ▸ rfl, hf.symm ▸ rfl, hi.symm ▸ rfl, r1, fun i h => r2 i (by omega)⟩
theorem typed_of {t L : List Nd} {x y : Nd} (h1 : x.op = y.op) (h2 : x.w = y.w) (hl : (y.args.length : Int) = ar y.op) (hw : ∀ i, i < y.args.length → wd t x i = wd L y i) (h : typed t x = true) : typed L y = true := by
  unfold typed at h ⊢
  rw [h1, h2] at h
  unfold ar at hl
  split at h
  · rename_i c
    rw [if_pos c]
    rw [if_neg (by omega), if_pos (by omega)] at hl
    rwa [hw 0 (by omega), hw 1 (by omega)] at h
  · rename_i c
    rw [if_neg c]
    split at h
    · rename_i c
      rw [if_pos c]
      rw [if_neg (by omega), if_pos (by omega)] at hl
      rwa [hw 0 (by omega), hw 1 (by omega)] at h
    · rename_i c
      rw [if_neg c]
      split at h
      · rename_i c
        rw [if_pos c]
        rw [if_neg (by omega), if_neg (by omega), if_pos (by omega)] at hl
        rwa [hw 0 (by omega), hw 1 (by omega), hw 2 (by omega)] at h
      · rename_i c
        rw [if_neg c]
        split at h
        · rename_i c
          rw [if_pos c]
          rw [if_neg (by omega), if_neg (by omega), if_neg (by omega), if_pos (by omega)] at hl
          rwa [hw 0 (by omega)] at h
        · rename_i c
          rw [if_neg c]
          split at h
          · rename_i c
            rw [if_pos c]
            rw [if_neg (by omega), if_neg (by omega), if_neg (by omega), if_pos (by omega)] at hl
            rwa [hw 0 (by omega)] at h
          · rename_i c
            rw [if_neg c]
end V
end Go.Proofs.YtbiopedpceddeaaGreatDoor
end
section
namespace Go.Proofs.YtbiopedpceddeaaGreatDoor
set_option linter.unusedVariables false
set_option linter.unusedSimpArgs false
namespace V
open T
theorem std_canon {t : List Nd} {env : List Int} (ht : Std t env) {la : List Int} {f : F} (hf : Rep t la f) : Std (canon f) env := by
  have hc : Cov t (canon f) := cnn_cov hf List.nodup_nil ord_nil (cov_nil t)
  have ho := canon_ord f
  refine ⟨fun j y hy => ?_, fun j y hy => ?_, fun y hy => ?_, ht.en, fun j y hy h33 => ?_⟩
  · obtain ⟨k, x, hx, e1, e2, e3, e4, e5, e6⟩ := node_match hc ho hy
    have h := ht.sh k x hx
    unfold shaped at h ⊢
    unfold immOk at h ⊢
    rw [e1, e2, e4, e5] at h
    simp only [Bool.and_eq_true] at h ⊢
    obtain ⟨⟨⟨⟨⟨⟨⟨h1, h2⟩, h3⟩, _⟩, h5⟩, h6⟩, h7⟩, h8⟩ := h
    refine ⟨⟨⟨⟨⟨⟨⟨h1, h2⟩, h3⟩, rfl⟩, h5⟩, h6⟩, h7⟩, ?_⟩
    unfold argsOk
    rw [List.all_eq_true]
    intro a ha
    have := ho j y hy a ha
    simp [this.1, this.2]
  · obtain ⟨k, x, hx, e1, e2, e3, e4, e5, e6⟩ := node_match hc ho hy
    have hs := shaped_args (ht.sh k x hx)
    exact typed_of e1 e2 (by rw [← e5, hs.1, e1]) e6 (ht.ty k x hx)
  · obtain ⟨j, hj⟩ := List.getElem?_of_mem hy
    obtain ⟨k, x, hx, e1, e2, e3, e4, e5, e6⟩ := node_match hc ho hj
    rw [← e4]
    exact ht.im x (List.mem_of_getElem? hx)
  · obtain ⟨k, x, hx, e1, e2, e3, e4, e5, e6⟩ := node_match hc ho hy
    rw [← e2, ← e4]
    exact ht.ev k x hx (by rw [e1, h33])
theorem canon_len1 {t : List Nd} {k : Int} {f : F} (hf : Rep t [k] f) : 1 ≤ (canon f).length ∧ (cnn f []).2 = [((canon f).length : Int) - 1] := by
  cases hf with
  | @cons _ _ x kids rest h0 hx hk hr =>
    cases hr
    have := cnn_last x.op x.w x.fl x.imm kids
    exact ⟨this.2, this.1⟩
/-- the value of the root -/
theorem root_canon {t : List Nd} {env : List Int} (hp : 0 < t.length) (ht : Std t env) {f : F} (hf : Rep t [((t.length : Int) - 1)] f) : (vals t env).getD (t.length - 1) 0 = (vals (canon f) env).getD ((canon f).length - 1) 0 := by
  obtain ⟨l1, l2⟩ := canon_len1 hf
  have hr := canon_rep f
  rw [l2] at hr
  have := ((vals_two ht (std_canon ht hf) hf hr).2 0 (by simp)).1
  simp only [List.getD_cons_zero] at this
  rw [show ((t.length : Int) - 1).toNat = t.length - 1 by omega, show (((canon f).length : Int) - 1).toNat = (canon f).length - 1 by omega] at this
  exact this
end V
end Go.Proofs.YtbiopedpceddeaaGreatDoor
end
section
namespace Go.Proofs.YtbiopedpceddeaaGreatDoor
open Go.RowKit
set_option linter.unusedVariables false
set_option linter.unusedSimpArgs false

set_option maxHeartbeats 1000000 in
theorem valClo_any (ws args : List Int) (i Bv Bx n m c cv : Nat) (Av A : Option Addr) (W : World) (hV : SlAt (IntR .u32) W Av n ws) (hA : SlAt (IntR .i64) W A m args) (hBv : W.cell? ⟨Bv, 0, none⟩ = some (.slice Av n cv)) (hBx : W.cell? ⟨Bx, 3, none⟩ = some (.slice A m c))
    (hi : i < m) (ha : 0 ≤ args.getD i 0 ∧ args.getD i 0 < n) :
    Calls Tryz.prog 47 #[.int .i64 (i : Int), .pointer (some ⟨Bv, 0, none⟩), .pointer (some ⟨Bx, 0, none⟩)] W fun e w' => e = .returned (.int .u32 (ws.getD (args.getD i 0).toNat 0)) ∧ Dr W w' := by
  obtain ⟨y, b, off, u, hy, rfl, hb, hc, rfl⟩ := hA.at_ hi
  rw [getD_of hy] at ha ⊢
  obtain ⟨j, rfl⟩ : ∃ j : Nat, y = j := ⟨y.toNat, by omega⟩
  have hj : j < n := by omega
  obtain ⟨v, b2, off2, u2, hv, rfl, hb2, hc2, rfl⟩ := hV.at_ hj
  rw [Int.toNat_natCast, getD_of hv]
  have hle := hA.le
  have hle2 := hV.le
  clear hy hA hV hv hb ha hb2
  go_enter Tryz.func47, Tryz.ntmps47
  go_wp2
  go_quiet (fail)
  go_wp2
  go_ret
  exact ⟨rfl, _, rfl⟩
end Go.Proofs.YtbiopedpceddeaaGreatDoor
end
