/- Plain: the values of a term's nodes. -/
import Derived.Test.YtableoihgkmbjaaGreatT14
namespace Go.Proofs.YtableoihgkmbjaaGreat
set_option linter.unusedVariables false
set_option linter.unusedSimpArgs false

namespace T
theorem getD_lt {α : Type} {l : List α} {d : α} {i : Nat} (h : i < l.length) : l.getD i d = l[i] := by
  rw [List.getD_eq_getElem?_getD, List.getElem?_eq_getElem h]; rfl
theorem getD_l {α : Type} {l m : List α} {d : α} {i : Nat} (h : i < l.length) : (l ++ m).getD i d = l.getD i d := by
  rw [List.getD_eq_getElem?_getD, List.getD_eq_getElem?_getD, List.getElem?_append_left h]
theorem getD_end {α : Type} {l : List α} {d a : α} : (l ++ [a]).getD l.length d = a := by
  rw [List.getD_eq_getElem?_getD]; simp
/-- the value of operand number i, of the values so far -/
def at_ (vs : List Int) (x : Nd) (i : Nat) : Int := vs.getD (x.args.getD i 0).toNat 0
/-- the value of a node -/
def val (t : List Nd) (vs env : List Int) (x : Nd) : Int :=
  if x.op = 0 then x.imm
  else if x.op = 33 then env.getD x.imm.toNat 0
  else if x.op = 14 then (if cmp x.imm (wd t x 0) (at_ vs x 0) (at_ vs x 1) = true then 1 else 0)
  else if x.op = 15 then at_ vs x (2 - at_ vs x 0).toNat
  else if 16 ≤ x.op then ext x.op (wd t x 0) x.w (at_ vs x 0)
  else B.full x.op x.w (at_ vs x 0) (at_ vs x 1)
/-- the values of the first j nodes -/
def valsTo (t : List Nd) (env : List Int) : Nat → List Int
  | 0 => []
  | j + 1 => valsTo t env j ++ [val t (valsTo t env j) env (t.getD j default)]
def vals (t : List Nd) (env : List Int) : List Int := valsTo t env t.length

theorem valsTo_len (t : List Nd) (env : List Int) (j : Nat) : (valsTo t env j).length = j := by
  induction j with
  | zero => rfl
  | succ j ih => simp [valsTo, ih]
theorem vals_len (t : List Nd) (env : List Int) : (vals t env).length = t.length := valsTo_len t env _

/-- a term that stands, and an environment that fits it -/
structure Std (t : List Nd) (env : List Int) : Prop where
  sh : ∀ (i : Nat) (x : Nd), t[i]? = some x → shaped false i x = true
  ty : ∀ (i : Nat) (x : Nd), t[i]? = some x → typed t x = true
  im : ∀ x ∈ t, 0 ≤ x.imm
  en : env.length = 4
  ev : ∀ (i : Nat) (x : Nd), t[i]? = some x → x.op = 33 → 0 ≤ env.getD x.imm.toNat 0 ∧ env.getD x.imm.toNat 0 < B.pw x.w

/-- each value is a word of its node -/
def Words (t : List Nd) (vs : List Int) : Prop := ∀ (i : Nat) (x : Nd), i < vs.length → t[i]? = some x → 0 ≤ vs.getD i 0 ∧ vs.getD i 0 < B.pw x.w

theorem Words.at_ {t : List Nd} {vs : List Int} (h : Words t vs) {x : Nd} {i : Nat} (hj : vs.length ≤ t.length) (hi : i < x.args.length) (hx : ∀ a ∈ x.args, 0 ≤ a ∧ a < (vs.length : Int)) : 0 ≤ T.at_ vs x i ∧ T.at_ vs x i < B.pw (wd t x i) := by
  have ha : x.args.getD i 0 ∈ x.args := by
    rw [getD_lt hi]; exact List.getElem_mem hi
  have hb := hx _ ha
  have hc : (x.args.getD i 0).toNat < vs.length := by omega
  have hd : (x.args.getD i 0).toNat < t.length := by omega
  have he : t[(x.args.getD i 0).toNat]? = some (t.getD (x.args.getD i 0).toNat default) := by
    rw [getD_lt hd]; exact List.getElem?_eq_getElem hd
  exact h _ _ hc he

/-- what a node of a standing term has, for its own sort -/
structure Nod (t : List Nd) (env vs : List Int) (x : Nd) : Prop where
  w0 : 1 ≤ x.w
  w1 : x.w ≤ 32
  i0 : 0 ≤ x.imm
  len : (x.args.length : Int) = ar x.op
  ar0 : 0 ≤ ar x.op
  lo : ∀ i, i < x.args.length → 0 ≤ x.args.getD i 0 ∧ x.args.getD i 0 < (vs.length : Int)
  wd : ∀ i, i < x.args.length → 1 ≤ T.wd t x i ∧ T.wd t x i ≤ 32
  at_ : ∀ i, i < x.args.length → 0 ≤ T.at_ vs x i ∧ T.at_ vs x i < B.pw (T.wd t x i)
  imm : immOk x = true
  ty : typed t x = true

theorem Std.nod {t : List Nd} {env vs : List Int} (h : Std t env) (hw : Words t vs) {x : Nd} (hx : t[vs.length]? = some x) : Nod t env vs x := by
  have hs := shaped_args (h.sh _ _ hx)
  have hl : vs.length < t.length := by
    rcases Nat.lt_or_ge vs.length t.length with h1 | h1
    · exact h1
    · rw [List.getElem?_eq_none h1] at hx; cases hx
  have hm : x ∈ t := List.mem_of_getElem? hx
  have hlo : ∀ i, i < x.args.length → 0 ≤ x.args.getD i 0 ∧ x.args.getD i 0 < (vs.length : Int) := by
    intro i hi
    rw [getD_lt hi]
    exact hs.2.2.2.2.2 _ (List.getElem_mem hi)
  refine ⟨hs.2.2.1, hs.2.2.2.1, h.im _ hm, hs.1, hs.2.1, hlo, ?_, fun i hi => hw.at_ (by omega) hi hs.2.2.2.2.2, hs.2.2.2.2.1, h.ty _ _ hx⟩
  intro i hi
  have hb := hlo i hi
  have hd : (x.args.getD i 0).toNat < t.length := by omega
  have he : t[(x.args.getD i 0).toNat]? = some (t.getD (x.args.getD i 0).toNat default) := by
    rw [getD_lt hd]; exact List.getElem?_eq_getElem hd
  have hz := shaped_args (h.sh _ _ he)
  exact ⟨hz.2.2.1, hz.2.2.2.1⟩

/-- what an extension has -/
theorem Nod.ext {t : List Nd} {env vs : List Int} {x : Nd} (h : Nod t env vs x) (h16 : 16 ≤ x.op) (h33 : x.op ≠ 33) : x.args.length = 1 ∧ ExtOk x.op (T.wd t x 0) x.w (T.at_ vs x 0) := by
  have h0 := h.ar0
  have hl := h.len
  have hk : x.op = 16 ∨ x.op = 17 ∨ x.op = 18 := by
    unfold ar at h0
    split at h0
    · omega
    · split at h0
      · omega
      · split at h0
        · omega
        · split at h0 <;> omega
  have hl1 : x.args.length = 1 := by
    unfold ar at hl
    rcases hk with e | e | e <;> rw [e] at hl <;> simp at hl <;> omega
  have ht := h.ty
  have hw := h.wd 0 (by omega)
  have ha := h.at_ 0 (by omega)
  refine ⟨hl1, hw.1, hw.2, h.w0, h.w1, ha.1, ha.2, ?_⟩
  unfold typed at ht
  rcases hk with e | e | e <;> rw [e] at ht ⊢ <;> simp at ht <;> omega

/-- what a comparison has -/
theorem Nod.cmp {t : List Nd} {env vs : List Int} {x : Nd} (h : Nod t env vs x) (h14 : x.op = 14) : x.args.length = 2 ∧ 0 ≤ x.imm ∧ x.imm ≤ 9 ∧ T.wd t x 1 = T.wd t x 0 := by
  have hl := h.len
  have hi := h.imm
  have ht := h.ty
  have h0 := h.i0
  unfold ar at hl
  unfold immOk at hi
  unfold typed at ht
  rw [h14] at hl hi ht
  simp at hl hi ht
  exact ⟨by omega, h0, hi, ht.symm⟩

/-- what a choice has -/
theorem Nod.ite {t : List Nd} {env vs : List Int} {x : Nd} (h : Nod t env vs x) (h15 : x.op = 15) : x.args.length = 3 ∧ T.wd t x 1 = x.w ∧ T.wd t x 2 = x.w ∧ (T.at_ vs x 0 = 0 ∨ T.at_ vs x 0 = 1) := by
  have hl := h.len
  have ht := h.ty
  unfold ar at hl
  unfold typed at ht
  rw [h15] at hl ht
  simp at hl ht
  have ha := h.at_ 0 (by omega)
  rw [ht.1.1] at ha
  have : B.pw 1 = 2 := by decide
  refine ⟨by omega, ht.1.2, ht.2, by omega⟩

/-- what an operation has -/
theorem Nod.bin {t : List Nd} {env vs : List Int} {x : Nd} (h : Nod t env vs x) (h0 : x.op ≠ 0) (h14 : x.op < 14) : x.args.length = 2 ∧ 1 ≤ x.op ∧ x.op ≤ 13 ∧ T.wd t x 0 = x.w ∧ T.wd t x 1 = x.w := by
  have hl := h.len
  have ht := h.ty
  have ha := h.ar0
  have h1 : 1 ≤ x.op ∧ x.op ≤ 13 := by
    unfold ar at ha
    split at ha
    · omega
    · split at ha
      · omega
      · split at ha
        · omega
        · split at ha <;> omega
  unfold ar at hl
  rw [if_neg (by omega), if_pos (by omega)] at hl
  unfold typed at ht
  rw [if_pos h1] at ht
  simp at ht
  exact ⟨by omega, h1.1, h1.2, ht.1, ht.2⟩

theorem ext_word {k n m x : Int} (h : ExtOk k n m x) : 0 ≤ ext k n m x ∧ ext k n m x < B.pw m := by
  obtain ⟨n0, n1, m0, m1, x0, x1, hk⟩ := h
  have hp := B.pw_pos m
  unfold ext
  rcases hk with ⟨rfl, hnm⟩ | ⟨rfl, hnm⟩ | ⟨rfl, hnm⟩
  · have : B.pw n ≤ B.pw m := by
      rw [B.pw_nat, B.pw_nat]
      exact Int.ofNat_le.2 (Nat.pow_le_pow_right (by decide) (by omega))
    rw [if_pos rfl]; omega
  · rw [if_neg (by decide), if_pos rfl]
    exact ⟨Int.emod_nonneg _ (by omega), Int.emod_lt_of_pos _ hp⟩
  · rw [if_neg (by decide), if_neg (by decide)]
    exact ⟨Int.emod_nonneg _ (by omega), Int.emod_lt_of_pos _ hp⟩

theorem val_word {t : List Nd} {env vs : List Int} (h : Std t env) (hw : Words t vs) {x : Nd} (hx : t[vs.length]? = some x) : 0 ≤ val t vs env x ∧ val t vs env x < B.pw x.w := by
  have hn := h.nod hw hx
  unfold val
  by_cases h0 : x.op = 0
  · rw [if_pos h0]
    have hi := hn.imm
    unfold immOk at hi
    rw [if_pos h0] at hi
    unfold B.isW at hi
    simp at hi
    exact ⟨hn.i0, hi.2⟩
  rw [if_neg h0]
  by_cases h1 : x.op = 33
  · rw [if_pos h1]; exact h.ev _ _ hx h1
  rw [if_neg h1]
  by_cases h2 : x.op = 14
  · rw [if_pos h2]
    have hp : (1 : Int) < B.pw x.w := by
      have h3 := B.pw_succ hn.w0
      have h4 := B.pw_pos (x.w - 1)
      omega
    split <;> omega
  rw [if_neg h2]
  by_cases h3 : x.op = 15
  · rw [if_pos h3]
    obtain ⟨hl, w1, w2, ha⟩ := hn.ite h3
    rcases ha with ha | ha
    · rw [ha]
      have := hn.at_ 2 (by omega)
      rw [w2] at this
      exact this
    · rw [ha]
      have := hn.at_ 1 (by omega)
      rw [w1] at this
      exact this
  rw [if_neg h3]
  by_cases h4 : 16 ≤ x.op
  · rw [if_pos h4]
    exact ext_word (hn.ext h4 h1).2
  rw [if_neg h4]
  obtain ⟨hl, o0, o1, w1, w2⟩ := hn.bin h0 (by omega)
  have a0 := hn.at_ 0 (by omega)
  have a1 := hn.at_ 1 (by omega)
  rw [w1] at a0
  rw [w2] at a1
  exact B.full_word o0 o1 hn.w0 a0.1 a0.2 a1.1 a1.2

theorem valsTo_words {t : List Nd} {env : List Int} (h : Std t env) (j : Nat) (hj : j ≤ t.length) : Words t (valsTo t env j) := by
  induction j with
  | zero => intro i x hi; simp [valsTo] at hi
  | succ j ih =>
    have ih := ih (by omega)
    have hx : t[(valsTo t env j).length]? = some (t.getD j default) := by
      rw [valsTo_len, getD_lt (by omega)]; exact List.getElem?_eq_getElem (by omega)
    have hv := val_word h ih hx
    intro i x hi hxi
    rw [valsTo_len] at hi
    by_cases hc : i < j
    · have := ih i x (by rw [valsTo_len]; exact hc) hxi
      rw [valsTo, getD_l (by rw [valsTo_len]; exact hc)]
      exact this
    · have he : i = j := by omega
      subst he
      rw [valsTo_len, hxi] at hx
      obtain rfl : x = t.getD i default := by injection hx
      have hg := getD_end (l := valsTo t env i) (d := (0 : Int)) (a := val t (valsTo t env i) env (t.getD i default))
      rw [valsTo_len] at hg
      rw [valsTo, hg]
      exact hv
end T
end Go.Proofs.YtableoihgkmbjaaGreat
