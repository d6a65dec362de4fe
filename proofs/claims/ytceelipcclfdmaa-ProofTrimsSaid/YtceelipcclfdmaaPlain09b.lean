/- Plain laws of unit propagation: what is true at the end of a search is just what follows. No program. -/
import Derived.Test.YtceelipcclfdmaaPlain09
namespace Go.Proofs.Ytceelipcclfdmaa.S
set_option linter.unusedVariables false

def Opn (tr : Int → Bool) (x : Int) : Prop := tr x = false ∧ tr (-x) = false
/-- A clause that asks for nothing: a literal is true, or two are open. -/
def Fine (tr : Int → Bool) (c : List Int) : Prop := (∃ x ∈ c, tr x = true) ∨ ∃ x ∈ c, ∃ y ∈ c, x ≠ y ∧ Opn tr x ∧ Opn tr y

theorem complete {tr : Int → Bool} {cs : List (List Int)} {given : List Int} (hc : ∀ l, tr l = true → tr (-l) = false) (hg : ∀ l ∈ given, tr l = true) (hf : ∀ c ∈ cs, Fine tr c) :
    (∀ l, Der cs given l → tr l = true) ∧ ¬ Incons cs given := by
  have h1 : ∀ l, Der cs given l → tr l = true := by
    intro l hd
    induction hd with
    | given_ h => exact hg _ h
    | @unit_ l c hcs hl _ ih =>
      have hneg : ∀ m ∈ c, m ≠ l → tr m = false := fun m hm hne => by
        have := hc _ (ih m hm hne)
        rwa [Int.neg_neg] at this
      rcases hf c hcs with ⟨x, hx, hxt⟩ | ⟨x, hx, y, hy, hxy, ox, oy⟩
      · by_cases hxl : x = l
        · rw [← hxl]; exact hxt
        · rw [hneg x hx hxl] at hxt; cases hxt
      · by_cases hxl : x = l
        · have hyl : y ≠ l := fun e => hxy (hxl.trans e.symm)
          have := oy.2
          rw [ih y hy hyl] at this; cases this
        · have := ox.2
          rw [ih x hx hxl] at this; cases this
  refine ⟨h1, ?_⟩
  rintro (⟨l, hl, hl'⟩ | ⟨c, hcs, hall⟩)
  · have := hc _ (h1 l hl)
    rw [h1 _ hl'] at this; cases this
  · have hfalse : ∀ m ∈ c, tr m = false := fun m hm => by
      have := hc _ (h1 _ (hall m hm))
      rwa [Int.neg_neg] at this
    rcases hf c hcs with ⟨x, hx, hxt⟩ | ⟨x, hx, y, hy, hxy, ox, oy⟩
    · rw [hfalse x hx] at hxt; cases hxt
    · have := ox.2
      rw [h1 _ (hall x hx)] at this; cases this

theorem incons_of {cs : List (List Int)} {given : List Int} {l : Int} (h : Der cs given l) (h' : Der cs given (-l)) : Incons cs given := .inl ⟨l, h, h'⟩
theorem incons_all {cs : List (List Int)} {given : List Int} {c : List Int} (hc : c ∈ cs) (h : ∀ m ∈ c, Der cs given (-m)) : Incons cs given := .inr ⟨c, hc, h⟩

theorem Der.mono {cs cs' : List (List Int)} {g g' : List Int} (hc : ∀ c ∈ cs, c ∈ cs') (hg : ∀ l ∈ g, l ∈ g') {l : Int} (h : Der cs g l) : Der cs' g' l := by
  induction h with
  | given_ h => exact .given_ (hg _ h)
  | unit_ h1 h2 _ ih => exact .unit_ (hc _ h1) h2 ih
theorem Incons.mono {cs cs' : List (List Int)} {g g' : List Int} (hc : ∀ c ∈ cs, c ∈ cs') (hg : ∀ l ∈ g, l ∈ g') (h : Incons cs g) : Incons cs' g' := by
  rcases h with ⟨l, h, h'⟩ | ⟨c, h, h'⟩
  · exact .inl ⟨l, h.mono hc hg, h'.mono hc hg⟩
  · exact .inr ⟨c, hc _ h, fun m hm => (h' m hm).mono hc hg⟩
theorem fol_mono {cs cs' : List (List Int)} {c : List Int} (hc : ∀ c ∈ cs, c ∈ cs') (h : fol cs c = true) : fol cs' c = true := fol_iff.2 ((fol_iff.1 h).mono hc fun _ h => h)

/-! the reference's state -/
def val (of : List Int) (l : Int) : Int := if 0 < l then of.getD l.toNat 0 else - of.getD (-l).toNat 0
def sgn (l : Int) : Int := if 0 < l then 1 else -1
def put (of : List Int) (l : Int) : List Int := of.set l.natAbs (sgn l)
def tro (of : List Int) (x : Int) : Bool := decide (x ≠ 0 ∧ val of x = 1)
structure Wf (n : Nat) (of : List Int) : Prop where
  len : of.length = n + 1
  tri : ∀ k, of.getD k 0 = -1 ∨ of.getD k 0 = 0 ∨ of.getD k 0 = 1

theorem Wf.val {n : Nat} {of : List Int} (h : Wf n of) (l : Int) : val of l = -1 ∨ val of l = 0 ∨ val of l = 1 := by
  unfold S.val
  split
  · exact h.tri _
  · have := h.tri (-l).toNat; omega

theorem val_neg (of : List Int) {l : Int} (h : l ≠ 0) : val of (-l) = - val of l := by
  unfold val
  by_cases h0 : 0 < l
  · rw [if_neg (by omega), if_pos h0, Int.neg_neg]
  · rw [if_pos (by omega), if_neg h0, Int.neg_neg]

theorem getD_set (of : List Int) (i j : Nat) (x : Int) : (of.set i x).getD j 0 = if i = j ∧ i < of.length then x else of.getD j 0 := by
  simp only [List.getD, List.getElem?_set]
  by_cases h : i = j
  · subst h
    by_cases h2 : i < of.length
    · simp [h2]
    · simp [h2]
  · simp [h]

theorem val_put {n : Nat} {of : List Int} (hw : Wf n of) {l : Int} (hl : isLit n l = true) (m : Int) (hm : m ≠ 0) : val (put of l) m = if m = l then 1 else if m = -l then -1 else val of m := by
  have hl' : -(n : Int) ≤ l ∧ l ≤ n ∧ l ≠ 0 := by simpa [isLit] using hl
  have hlt : l.natAbs < of.length := by rw [hw.len]; omega
  unfold val put
  rw [getD_set, getD_set]
  by_cases h1 : m = l
  · subst h1
    by_cases h0 : 0 < m
    · rw [if_pos h0, if_pos ⟨by omega, hlt⟩]; simp [sgn, h0]
    · rw [if_neg h0, if_pos ⟨by omega, hlt⟩]; simp [sgn, h0]
  · rw [if_neg h1]
    by_cases h2 : m = -l
    · subst h2
      by_cases h0 : 0 < -l
      · rw [if_pos h0, if_pos ⟨by omega, hlt⟩, if_pos rfl]; simp [sgn]; omega
      · rw [if_neg h0, if_pos ⟨by omega, hlt⟩, if_pos rfl]; simp [sgn]; omega
    · rw [if_neg h2]
      by_cases h0 : 0 < m
      · rw [if_pos h0, if_pos h0, if_neg (by omega)]
      · rw [if_neg h0, if_neg h0, if_neg (by omega)]

theorem Wf.put {n : Nat} {of : List Int} (hw : Wf n of) (l : Int) : Wf n (put of l) := by
  refine ⟨by simp [S.put, hw.len], fun k => ?_⟩
  unfold S.put
  rw [getD_set]
  split
  · unfold sgn; split <;> simp
  · exact hw.tri k

/-- What is true follows; a conflict is one. -/
structure RInv (cs : List (List Int)) (given : List Int) (n : Nat) (of : List Int) (conf : Bool) : Prop where
  wf : Wf n of
  sound : ∀ l, isLit n l = true → val of l = 1 → Der cs given l
  con : conf = true → Incons cs given

theorem isLit_neg {n l : Int} (h : isLit n l = true) : isLit n (-l) = true := by
  simp only [isLit, decide_eq_true_eq] at h ⊢; omega
theorem isLit_ne {n l : Int} (h : isLit n l = true) : l ≠ 0 := by
  simp only [isLit, decide_eq_true_eq] at h; omega

theorem RInv.clash {cs : List (List Int)} {given : List Int} {n : Nat} {of : List Int} {conf : Bool} (h : RInv cs given n of conf) {l : Int} (hl : isLit n l = true) (hd : Der cs given l) (hv : val of l < 0) : RInv cs given n of true := by
  refine ⟨h.wf, h.sound, fun _ => incons_of hd (h.sound (-l) (isLit_neg hl) ?_)⟩
  rw [val_neg _ (isLit_ne hl)]
  have := h.wf.val l; omega

theorem RInv.put {cs : List (List Int)} {given : List Int} {n : Nat} {of : List Int} {conf : Bool} (h : RInv cs given n of conf) {l : Int} (hl : isLit n l = true) (hd : Der cs given l) : RInv cs given n (S.put of l) conf := by
  refine ⟨h.wf.put l, fun m hm hv => ?_, h.con⟩
  rw [val_put h.wf hl m (isLit_ne hm)] at hv
  by_cases h1 : m = l
  · rw [h1]; exact hd
  · rw [if_neg h1] at hv
    by_cases h2 : m = -l
    · rw [if_pos h2] at hv; omega
    · rw [if_neg h2] at hv; exact h.sound m hm hv

theorem RInv.fin {cs : List (List Int)} {given : List Int} {n : Nat} {of : List Int} (h : RInv cs given n of false) (hcs : cs.all (isClause n) = true) (hgl : isClause n given = true)
    (hg : ∀ l ∈ given, val of l = 1) (hf : ∀ c ∈ cs, Fine (tro of) c) : ¬ Incons cs given ∧ ∀ l, isLit n l = true → (val of l = 1 ↔ Der cs given l) := by
  have hc : ∀ l, tro of l = true → tro of (-l) = false := by
    intro l hl
    simp only [tro, decide_eq_true_eq] at hl
    simp only [tro, decide_eq_false_iff_not]
    rw [val_neg _ hl.1]; omega
  obtain ⟨h1, h2⟩ := complete hc (fun l hl => by
    have := List.all_eq_true.1 hgl l hl
    simp [tro, isLit_ne this, hg l hl]) hf
  refine ⟨h2, fun l hl => ⟨h.sound l hl, fun hd => ?_⟩⟩
  have := h1 l hd
  simp only [tro, decide_eq_true_eq] at this
  exact this.2

/-- how many variables are open -/
def zeros (of : List Int) : Nat := of.countP (fun x => x == 0)

theorem countP_set_lt {of : List Int} {k : Nat} {x : Int} (h : k < of.length) (h0 : of.getD k 0 = 0) (hx : x ≠ 0) : zeros (of.set k x) < zeros of := by
  unfold zeros
  induction of generalizing k with
  | nil => simp at h
  | cons y r ih =>
    cases k with
    | zero =>
      simp at h0
      subst h0
      simp [hx]
    | succ k =>
      simp only [List.set_cons_succ, List.countP_cons]
      have := ih (by simpa using h) (by simpa [List.getD] using h0)
      omega

theorem zeros_put {n : Nat} {of : List Int} (hw : Wf n of) {l : Int} (hl : isLit n l = true) (h0 : val of l = 0) : zeros (put of l) < zeros of := by
  have hl' : -(n : Int) ≤ l ∧ l ≤ n ∧ l ≠ 0 := by simpa [isLit] using hl
  refine countP_set_lt (by rw [hw.len]; omega) ?_ (by unfold sgn; split <;> omega)
  unfold val at h0
  split at h0
  · rw [show l.natAbs = l.toNat from by omega]; exact h0
  · rw [show l.natAbs = (-l).toNat from by omega]; omega

theorem opn_tro {n : Nat} {of : List Int} (hw : Wf n of) {x : Int} (hx : isLit n x = true) : Opn (tro of) x ↔ val of x = 0 := by
  have h1 := hw.val x
  unfold Opn tro
  rw [val_neg _ (isLit_ne hx)]
  have h2 := isLit_ne hx
  simp only [decide_eq_false_iff_not]
  omega

theorem fine_of_val {n : Nat} {of : List Int} (hw : Wf n of) {c : List Int} (hc : isClause n c = true)
    (h : (∃ x ∈ c, 0 < val of x) ∨ ∃ x ∈ c, ∃ y ∈ c, x ≠ y ∧ val of x = 0 ∧ val of y = 0) : Fine (tro of) c := by
  rcases h with ⟨x, hx, hv⟩ | ⟨x, hx, y, hy, hne, h1, h2⟩
  · have := hw.val x
    exact .inl ⟨x, hx, by simp only [tro, decide_eq_true_eq]; exact ⟨isLit_ne (List.all_eq_true.1 hc x hx), by omega⟩⟩
  · exact .inr ⟨x, hx, y, hy, hne, (opn_tro hw (List.all_eq_true.1 hc x hx)).2 h1, (opn_tro hw (List.all_eq_true.1 hc y hy)).2 h2⟩

/-! the program's state -/
/-- What is true follows, and never both of a variable. -/
structure PInv (cs : List (List Int)) (given : List Int) (n : Nat) (tr : Int → Bool) : Prop where
  lit : ∀ l, tr l = true → isLit n l = true
  sound : ∀ l, tr l = true → Der cs given l
  con : ∀ l, tr l = true → tr (-l) = false

def also (tr : Int → Bool) (l : Int) : Int → Bool := fun x => if x = l then true else tr x

theorem PInv.also {cs : List (List Int)} {given : List Int} {n : Nat} {tr : Int → Bool} (h : PInv cs given n tr) {l : Int} (hl : isLit n l = true) (hd : Der cs given l) (hn : tr (-l) = false) : PInv cs given n (S.also tr l) := by
  have hl0 := isLit_ne hl
  refine ⟨fun m hm => ?_, fun m hm => ?_, fun m hm => ?_⟩
  · unfold S.also at hm; split at hm
    · rename_i e; rw [e]; exact hl
    · exact h.lit m hm
  · unfold S.also at hm; split at hm
    · rename_i e; rw [e]; exact hd
    · exact h.sound m hm
  · unfold S.also at hm ⊢
    split at hm
    · rename_i e; subst e; rw [if_neg (by omega)]; exact hn
    · by_cases e : -m = l
      · subst e; rw [Int.neg_neg] at hn; rw [hn] at hm; cases hm
      · rw [if_neg e]; exact h.con m hm

/-- A clause that asks for nothing, or at which one will look again. -/
def Waits (tr : Int → Bool) (queue : List Int) (c : List Int) : Prop := Fine tr c ∨ ∃ m ∈ c, -m ∈ queue

theorem Waits.also {tr : Int → Bool} {queue : List Int} {c : List Int} {l : Int} (h : Waits tr queue c) (hn : tr (-l) = false) : Waits (S.also tr l) (queue ++ [l]) c := by
  rcases h with (⟨x, hx, hxt⟩ | ⟨x, hx, y, hy, hne, ox, oy⟩) | ⟨m, hm, hq⟩
  · exact .inl (.inl ⟨x, hx, by unfold S.also; split <;> simp [hxt]⟩)
  · by_cases h1 : x = l
    · exact .inl (.inl ⟨x, hx, by simp [S.also, h1]⟩)
    by_cases h2 : -x = l
    · exact .inr ⟨x, hx, by simp [h2]⟩
    by_cases h3 : y = l
    · exact .inl (.inl ⟨y, hy, by simp [S.also, h3]⟩)
    by_cases h4 : -y = l
    · exact .inr ⟨y, hy, by simp [h4]⟩
    exact .inl (.inr ⟨x, hx, y, hy, hne, ⟨by simp [S.also, h1, ox.1], by simp [S.also, h2, ox.2]⟩, ⟨by simp [S.also, h3, oy.1], by simp [S.also, h4, oy.2]⟩⟩)
  · exact .inr ⟨m, hm, by simp [hq]⟩

theorem PInv.fin {cs : List (List Int)} {given : List Int} {n : Nat} {tr : Int → Bool} (h : PInv cs given n tr) (hg : ∀ l ∈ given, tr l = true) (hf : ∀ c ∈ cs, Waits tr [] c) :
    ¬ Incons cs given ∧ ∀ l, tr l = true ↔ Der cs given l := by
  obtain ⟨h1, h2⟩ := complete h.con hg (fun c hc => (hf c hc).resolve_right (by rintro ⟨m, _, hm⟩; cases hm))
  exact ⟨h2, fun l => ⟨h.sound l, h1 l⟩⟩

/-- the literals of n variables -/
def lits (n : Nat) : List Int := (List.range n).flatMap fun (k : Nat) => [(k : Int) + 1, -((k : Int) + 1)]
theorem mem_lits {n : Nat} {l : Int} (h : isLit n l = true) : l ∈ lits n := by
  have hl' : -(n : Int) ≤ l ∧ l ≤ n ∧ l ≠ 0 := by simpa [isLit] using h
  unfold lits
  rw [List.mem_flatMap]
  exact ⟨l.natAbs - 1, by rw [List.mem_range]; omega, by simp; omega⟩
def open_ (n : Nat) (tr : Int → Bool) : Nat := (lits n).countP fun l => !tr l
theorem countP_lt {p q : Int → Bool} {l : List Int} (h : ∀ x, p x = true → q x = true) {x : Int} (hx : x ∈ l) (hp : p x = false) (hq : q x = true) : l.countP p < l.countP q := by
  induction l with
  | nil => cases hx
  | cons y r ih =>
    simp only [List.countP_cons]
    have hmono : r.countP p ≤ r.countP q := List.countP_mono_left fun z _ => h z
    rcases List.mem_cons.1 hx with rfl | hx
    · simp [hp, hq]; omega
    · have := ih hx
      have h2 := h y
      cases hpy : p y <;> cases hqy : q y <;> simp_all <;> omega
theorem open_also {n : Nat} {tr : Int → Bool} {l : Int} (hl : isLit n l = true) (hn : tr l = false) : open_ n (also tr l) < open_ n tr :=
  countP_lt (x := l) (fun x hx => by unfold also at hx; split at hx <;> simp_all) (mem_lits hl) (by simp [also]) (by simp [hn])
end Go.Proofs.Ytceelipcclfdmaa.S
