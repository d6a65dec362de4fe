/- Plain: the nodes that are compared, with a stack. -/
import Derived.Test.YtmebpgggfppmhaaDoorGQ3
set_option linter.unusedVariables false
set_option linter.unusedSimpArgs false
section
namespace Go.Proofs.YtmebpgggfppmhaaDoor
set_option linter.unusedVariables false
set_option linter.unusedSimpArgs false
namespace T
def F.size : F → Nat
  | .nil => 0
  | .cons _ _ _ _ k r => 1 + k.size + r.size
theorem size_app (f g : F) : (f.app g).size = f.size + g.size := by
  induction f with
  | nil => simp [F.app, F.size]
  | cons _ _ _ _ k r _ ih => simp only [F.app, F.size, ih]; omega
theorem len_size (f : F) : f.len ≤ f.size := by
  induction f with
  | nil => simp [F.len]
  | cons _ _ _ _ k r _ ih => simp only [F.len, F.size]; omega
def cc : Nat → Nat
  | 0 => 0
  | n + 1 => 1 + 3 * cc n
theorem size_bd {p : List Nd} (ho : Ord p) (ha : ∀ x ∈ p, x.args.length ≤ 3) : ∀ (n : Nat) {la : List Int} {f : F}, Rep p la f → (∀ a ∈ la, a < (n : Int)) → f.size ≤ la.length * cc n := by
  intro n
  induction n with
  | zero =>
    intro la f r h
    cases r with
    | nil => simp [F.size]
    | cons h0 hx hk hr => have := h _ (List.mem_cons_self ..); omega
  | succ n ih =>
    intro la f r
    induction r with
    | nil => intro _; simp [F.size]
    | @cons a la x kids rest h0 hx hk hr _ ih2 =>
      intro h
      have h1 := ih hk (fun b hb => by
        have := ho _ x hx b hb
        have := h a (List.mem_cons_self ..)
        omega)
      have h2 := ih2 (fun b hb => h b (List.mem_cons_of_mem _ hb))
      have h3 := ha x (List.mem_of_getElem? hx)
      have h4 : x.args.length * cc n ≤ 3 * cc n := Nat.mul_le_mul_right _ h3
      simp only [F.size, List.length_cons, Nat.add_mul, Nat.one_mul]
      have e : cc (n + 1) = 1 + 3 * cc n := rfl
      omega
end T
namespace R
open T (Nd F)

theorem prs_app : ∀ (k k' : F), k.len = k'.len → ∀ (r r' : F), prs (k.app r) (k'.app r') = (prs k k').bind fun l => (prs r r').map fun m => l ++ m := by
  intro k
  induction k with
  | nil =>
    intro k' h r r'
    cases k' with
    | nil => simp [F.app, prs]
    | cons => simp [F.len] at h
  | cons pop pw pfl pimm pk pr _ ih =>
    intro k' h r r'
    cases k' with
    | nil => simp [F.len] at h
    | cons op tw fl imm tk tr =>
      have h' : pr.len = tr.len := by simp only [F.len] at h; omega
      have e := ih tr h' r r'
      simp only [F.app, prs]
      split
      · rw [e]
        cases prs pr tr <;> simp
        cases prs r r' <;> simp
      · split
        · split
          · rw [e]
            cases prs pr tr <;> simp
            cases prs r r' <;> simp
          · rfl
        · split
          · rfl
          · rw [e]
            cases prs pk tk <;> simp
            cases prs pr tr <;> simp
            cases prs r r' <;> simp

def PrAt (p t : List Nd) (q : Nat × Nat) (r : Pr) : Prop :=
  ∃ x y, p[q.1]? = some x ∧ t[q.2]? = some y ∧ ∃ tk, T.Rep t y.args tk ∧ r = ⟨x.op, x.w, x.fl, x.imm, y.op, y.w, y.fl, y.imm, tk⟩
def PrsAt (p t : List Nd) (O : List (Nat × Nat)) (L : List Pr) : Prop := O.length = L.length ∧ ∀ (k : Nat) q r, O[k]? = some q → L[k]? = some r → PrAt p t q r
theorem prsAt_snoc {p t : List Nd} {O : List (Nat × Nat)} {L : List Pr} {q : Nat × Nat} {r : Pr} (h : PrsAt p t O L) (hr : PrAt p t q r) : PrsAt p t (O ++ [q]) (L ++ [r]) := by
  refine ⟨by rw [List.length_append, List.length_append, h.1]; rfl, fun k a b ha hb => ?_⟩
  by_cases hk : k < O.length
  · rw [List.getElem?_append_left hk] at ha
    rw [List.getElem?_append_left (by rw [← h.1]; exact hk)] at hb
    exact h.2 k a b ha hb
  · rw [List.getElem?_append_right (by omega)] at ha
    rw [List.getElem?_append_right (by rw [← h.1]; omega), ← h.1] at hb
    have h0 : k - O.length = 0 := by
      have := (List.getElem?_eq_some_iff.1 ha).1
      simp at this; exact this
    rw [h0] at ha hb
    simp at ha hb
    subst ha hb
    exact hr

/-- what is compared: O is done, S stands on the stack -/
structure PsI (p t : List Nd) (res : Option (List Pr)) (O S : List (Nat × Nat)) (F G : T.F) : Prop where
  rp : T.Rep p (S.map fun q => (q.1 : Int)) F
  rt : T.Rep t (S.map fun q => (q.2 : Int)) G
  acc : ∃ L, PrsAt p t O L ∧ res = (prs F G).map fun m => L ++ m

section
variable {p t : List Nd} {res : Option (List Pr)} {O S : List (Nat × Nat)} {F G : T.F} {q : Nat × Nat}
theorem psi_start {i j : Nat} {f g : T.F} (hf : T.Rep p [(i : Int)] f) (hg : T.Rep t [(j : Int)] g) : PsI p t (prs f g) [] [(i, j)] f g :=
  ⟨hf, hg, [], ⟨rfl, fun k a b ha => by simp at ha⟩, by cases prs f g <;> simp⟩
theorem PsI.end_ (h : PsI p t res O [] F G) : ∃ L, PrsAt p t O L ∧ res = some L := by
  obtain ⟨L, h1, h2⟩ := h.acc
  have e1 := h.rp
  have e2 := h.rt
  cases e1
  cases e2
  exact ⟨L, h1, by rw [h2]; simp [prs]⟩
/-- the top of the stack -/
structure PsT (p t : List Nd) (S : List (Nat × Nat)) (F G : T.F) (q : Nat × Nat) (x y : Nd) (k r k' r' : T.F) : Prop where
  hx : p[q.1]? = some x
  hy : t[q.2]? = some y
  hk : T.Rep p x.args k
  hr : T.Rep p (S.map fun q => (q.1 : Int)) r
  hk' : T.Rep t y.args k'
  hr' : T.Rep t (S.map fun q => (q.2 : Int)) r'
  eF : F = .cons x.op x.w x.fl x.imm k r
  eG : G = .cons y.op y.w y.fl y.imm k' r'
theorem PsI.top (h : PsI p t res O (q :: S) F G) : ∃ x y k r k' r', PsT p t S F G q x y k r k' r' := by
  have h1 := h.rp
  have h2 := h.rt
  rw [List.map_cons] at h1 h2
  cases h1 with
  | cons a0 ax ak ar =>
    cases h2 with
    | cons b0 bx bk br =>
      rw [Int.toNat_natCast] at ax bx
      exact ⟨_, _, _, _, _, _, ax, bx, ak, ar, bk, br, rfl, rfl⟩
variable {x y : Nd} {k r k' r' : T.F}
theorem PsT.pr (h : PsT p t S F G q x y k r k' r') : PrAt p t q ⟨x.op, x.w, x.fl, x.imm, y.op, y.w, y.fl, y.imm, k'⟩ := ⟨x, y, h.hx, h.hy, k', h.hk', rfl⟩
theorem PsI.leaf (h : PsI p t res O (q :: S) F G) (hT : PsT p t S F G q x y k r k' r') (hl : x.op = 33 ∨ (x.op = 34 ∧ y.op = 0)) : PsI p t res (O ++ [q]) S r r' := by
  obtain ⟨L, h1, h2⟩ := h.acc
  refine ⟨hT.hr, hT.hr', _, prsAt_snoc h1 hT.pr, ?_⟩
  rw [h2, hT.eF, hT.eG]
  simp only [prs]
  rcases hl with e | ⟨e, e2⟩
  · rw [if_pos e]; cases prs r r' <;> simp
  · rw [if_neg (by omega), if_pos e, if_pos e2]; cases prs r r' <;> simp
theorem PsI.bad (h : PsI p t res O (q :: S) F G) (hT : PsT p t S F G q x y k r k' r') (h33 : x.op ≠ 33) (hb : (x.op = 34 ∧ y.op ≠ 0) ∨ (x.op ≠ 34 ∧ (x.op ≠ y.op ∨ x.args.length ≠ y.args.length))) : res = none := by
  obtain ⟨L, h1, h2⟩ := h.acc
  rw [h2, hT.eF, hT.eG]
  simp only [prs]
  rw [if_neg h33]
  rcases hb with ⟨e, e2⟩ | ⟨e, e2⟩
  · rw [if_pos e, if_neg e2]; rfl
  · rw [if_neg e, if_pos]
    · rfl
    · rcases e2 with e2 | e2
      · exact .inl fun e => e2 e.symm
      · right; rw [hT.hk.len, hT.hk'.len]; exact e2
def zp (x y : Nd) : List (Nat × Nat) := (x.args.zip y.args).map fun ab => (ab.1.toNat, ab.2.toNat)
theorem PsI.good (h : PsI p t res O (q :: S) F G) (hT : PsT p t S F G q x y k r k' r') (h33 : x.op ≠ 33) (h34 : x.op ≠ 34) (ho : x.op = y.op) (hl : x.args.length = y.args.length) (hx0 : ∀ a ∈ x.args, 0 ≤ a) (hy0 : ∀ a ∈ y.args, 0 ≤ a) :
    PsI p t res (O ++ [q]) (zp x y ++ S) (k.app r) (k'.app r') := by
  obtain ⟨L, h1, h2⟩ := h.acc
  have z1 : (zp x y).map (fun q => (q.1 : Int)) = x.args := by
    unfold zp
    rw [List.map_map]
    apply List.ext_getElem (by simp [hl])
    intro i h3 h4
    simp only [List.getElem_map, List.getElem_zip, Function.comp]
    exact Int.toNat_of_nonneg (hx0 _ (List.getElem_mem h4))
  have z2 : (zp x y).map (fun q => (q.2 : Int)) = y.args := by
    unfold zp
    rw [List.map_map]
    apply List.ext_getElem (by simp [hl])
    intro i h3 h4
    simp only [List.getElem_map, List.getElem_zip, Function.comp]
    exact Int.toNat_of_nonneg (hy0 _ (List.getElem_mem h4))
  refine ⟨by rw [List.map_append, z1]; exact hT.hk.app hT.hr, by rw [List.map_append, z2]; exact hT.hk'.app hT.hr', _, prsAt_snoc h1 hT.pr, ?_⟩
  rw [h2, hT.eF, hT.eG]
  have e : k.len = k'.len := by rw [hT.hk.len, hT.hk'.len, hl]
  rw [prs_app k k' e]
  simp only [prs]
  rw [if_neg h33, if_neg h34, if_neg (by rw [e]; simp [ho])]
  cases prs k k' <;> simp
  cases prs r r' <;> simp
theorem PsT.size (h : PsT p t S F G q x y k r k' r') : F.size = 1 + k.size + r.size := by rw [h.eF]; rfl
theorem zp_len (hl : x.args.length = y.args.length) : (zp x y).length = x.args.length := by unfold zp; simp [hl]
theorem zp_at {i : Nat} {a b : Int} (ha : x.args[i]? = some a) (hb : y.args[i]? = some b) : (zp x y)[i]? = some (a.toNat, b.toNat) := by
  unfold zp
  rw [List.getElem?_map, (List.getElem?_zip_eq_some (z := (a, b))).2 ⟨ha, hb⟩]
  rfl
end
end R
end Go.Proofs.YtmebpgggfppmhaaDoor
end
section
namespace Go.Proofs.YtmebpgggfppmhaaDoor
open Go.RowKit
set_option linter.unusedVariables false
set_option linter.unusedSimpArgs false

def pairC (q : Nat × Nat) : List Value := [.int .i64 (q.1 : Int), .int .i64 (q.2 : Int)]
def flatP (l : List (Nat × Nat)) : List Value := l.flatMap pairC
theorem flatP_len (l : List (Nat × Nat)) : (flatP l).length = l.length * 2 := by
  unfold flatP
  induction l with
  | nil => rfl
  | cons a l ih => rw [List.flatMap_cons, List.length_append, ih]; simp [pairC]; omega
theorem flatP_app (l m : List (Nat × Nat)) : flatP (l ++ m) = flatP l ++ flatP m := by unfold flatP; rw [List.flatMap_append]
theorem flatP_snoc (l : List (Nat × Nat)) (q : Nat × Nat) : flatP (l ++ [q]) = flatP l ++ pairC q := by rw [flatP_app]; simp [flatP]
theorem flatP_at {l : List (Nat × Nat)} {k : Nat} {q : Nat × Nat} (h : l[k]? = some q) : (flatP l)[k * 2]? = some (.int .i64 (q.1 : Int)) ∧ (flatP l)[k * 2 + 1]? = some (.int .i64 (q.2 : Int)) := by
  induction l generalizing k with
  | nil => simp at h
  | cons a l ih =>
    have e : flatP (a :: l) = .int .i64 (a.1 : Int) :: .int .i64 (a.2 : Int) :: flatP l := rfl
    rw [e]
    cases k with
    | zero => simp at h; subst h; exact ⟨rfl, rfl⟩
    | succ k =>
      rw [List.getElem?_cons_succ] at h
      have := ih h
      rw [show (k + 1) * 2 = k * 2 + 1 + 1 by omega]
      exact this
theorem infoPair : (Tryd.prog.info? 118).map (fun i => (i.zero, i.size, i.bytes)) = some (some (.agg #[.int .i64 0, .int .i64 0]), 2, 16) := by kernel_rfl

/-- pairs in memory of the call's own -/
def OwnP (B : Nat) (w : World) (v : Value) (l : List (Nat × Nat)) : Prop := OwnAt w 118 2 v l.length (flatP l) ∧ ∀ g, v.ownBlock = some g → B ≤ g
section
variable {B B' n c : Nat} {w w' : World} {v : Value} {l : List (Nat × Nat)} {A : Option Addr}
theorem OwnP.nil_ (B : Nat) (w : World) : OwnP B w (.slice none 0 0) [] := ⟨OwnAt.nil_ _ _ _, fun g h => by simp [Value.ownBlock] at h⟩
theorem OwnP.form (h : OwnP B w v l) : ∃ A c, v = .slice A l.length c := h.1.form
theorem OwnP.below (h : OwnP B w v l) (hb : Below w.heap.size w w') : OwnP B w' v l := ⟨h.1.below hb h.1.lt, h.2⟩
theorem OwnP.weak (h : OwnP B' w v l) (hb : B ≤ B') : OwnP B w v l := ⟨h.1, fun g hg => Nat.le_trans hb (h.2 g hg)⟩
theorem OwnP.kept {row : Option Nat} (h : OwnP B w v l) (hg : w.grownBy w' row) (hne : v.ownBlock = none ∨ v.ownBlock ≠ row) : OwnP B w' v l := ⟨h.1.kept hg hne, h.2⟩
theorem OwnP.at_ (h : OwnP B w (.slice A n c) l) (hn : l.length = n) {k : Nat} {q : Nat × Nat} (hk : l[k]? = some q) :
    ∃ g off, A = some ⟨g, off, none⟩ ∧ w.cell? ⟨g, off + k * 2, none⟩ = some (.int .i64 (q.1 : Int)) ∧ w.cell? ⟨g, off + k * 2 + 1, none⟩ = some (.int .i64 (q.2 : Int)) ∧ g < w.heap.size ∧ n ≤ c := by
  subst hn
  obtain ⟨q1, q2⟩ := flatP_at hk
  rcases h.1.2 with ⟨e, h0⟩ | ⟨g, off, cap, cur, e, hg, h1, h2, h3, h4⟩
  · have := (List.getElem?_eq_some_iff.1 hk).1; omega
  · cases e
    refine ⟨g, off, rfl, ?_, ?_, (Array.getElem?_eq_some_iff.1 hg).1, h1⟩
    · rw [cell_of_row _ _ _ _ _ (0, 0) hg]; exact h4 _ _ q1
    · rw [cell_of_row _ _ _ _ _ (0, 0) hg, Nat.add_assoc]; exact h4 _ _ q2
theorem OwnP.pop {q : Nat × Nat} (h : OwnP B w (.slice A (n + 1) c) (l ++ [q])) (hn : l.length = n) : OwnP B w (.slice A n c) l := by
  subst hn
  refine ⟨⟨flatP_len l, ?_⟩, fun g hg => h.2 g (by cases A <;> simp [Value.ownBlock] at hg ⊢; exact hg)⟩
  rcases h.1.2 with ⟨e, h0⟩ | ⟨g, off, cap, cur, e, hg, h1, h2, h3, h4⟩
  · rw [List.length_append] at h0; simp at h0
  · injection e with e1 e2 e3
    subst e1 e3
    exact .inr ⟨g, off, c, cur, rfl, hg, by rw [List.length_append] at h1; simp at h1; omega, h2, h3, fun j u hu => h4 j u (by
      rw [flatP_snoc, List.getElem?_append_left (List.getElem?_eq_some_iff.1 hu).1]; exact hu)⟩
theorem OwnP.one (W : World) (q : Nat × Nat) : OwnP W.heap.size (W.alloc (.cells #[.int .i64 (q.1 : Int), .int .i64 (q.2 : Int)] 118)) (.slice (some ⟨W.heap.size, 0, none⟩) 1 1) [q] :=
  ⟨OwnAt.of_new W #[.int .i64 (q.1 : Int), .int .i64 (q.2 : Int)] 1 rfl (by simp [maxLen]), fun g hg => by simp [Value.ownBlock] at hg; omega⟩
end
theorem pair_cells {w : World} {g : Nat} {T : TypeId} {a0 a1 : Value} (h : w.heap[g]? = some (.cells #[a0, a1] T (0, 0))) : w.cell? ⟨g, 0, none⟩ = some a0 ∧ w.cell? ⟨g, 1, none⟩ = some a1 := by
  refine ⟨?_, ?_⟩
  all_goals rw [cell_of_row _ _ _ _ _ (0, 0) h]; rfl
/-- two lists do not share a block -/
def Apart (v v' : Value) : Prop := v.ownBlock = none ∨ v.ownBlock ≠ v'.ownBlock
theorem Apart.symm {v v' : Value} (h : Apart v v') : Apart v' v := by
  rcases h with h | h
  · cases e : v'.ownBlock with
    | none => exact .inl e
    | some g => exact .inr (by rw [h, e]; simp)
  · exact .inr fun e => h e.symm
/-- one list grew -/
theorem Apart.grow {B : Nat} {w : World} {v v' u : Value} {l : List (Nat × Nat)} {s : Nat} (h : Apart v v') (h' : OwnP B w v' l) (hs : w.heap.size ≤ s) (hat : u.ownBlock = v.ownBlock ∨ u.ownBlock = some s) : Apart u v' := by
  rcases hat with e | e
  · unfold Apart; rw [e]; exact h
  · refine .inr fun e2 => ?_
    rw [e] at e2
    have := h'.1.lt s e2.symm
    omega

def PairsPost (W : World) (p t : List T.Nd) (fp ft : T.F) (e : Ending) (W' : World) : Prop :=
  Below W.heap.size W W' ∧ ((R.prs fp ft = none ∧ e = .returned (.tuple #[.slice none 0 0, .bool false])) ∨
    ∃ A c O L, R.prs fp ft = some L ∧ R.PrsAt p t O L ∧ e = .returned (.tuple #[.slice A O.length c, .bool true]) ∧ OwnP W.heap.size W' (.slice A O.length c) O)

set_option maxRecDepth 100000 in
set_option maxHeartbeats 8000000 in
theorem rpairs_any {p t : List T.Nd} {n m cp ct : Nat} {Ap At : Option Addr} {W : World} {fp ft : T.F} (hP : StAt 5 NdR W Ap (n + 1) p) (hT : StAt 5 NdR W At (m + 1) t) (hop : T.Ord p) (hot : T.Ord t) (ha : ∀ x ∈ p, x.args.length ≤ 3) (hfp : T.Rep p [(n : Int)] fp) (hft : T.Rep t [(m : Int)] ft) (hsz : fp.size ≤ 300000) :
    Calls Tryd.prog 74 #[.slice Ap (n + 1) cp, .slice At (m + 1) ct] W (PairsPost W p t fp ft) := by
  have hleP := hP.le
  have hleT := hT.le
  have HP := Lib.hid hP
  have HT := Lib.hid hT
  have Hop := Lib.hid hop
  have Hot := Lib.hid hot
  have Ha := Lib.hid ha
  have HI0 := Lib.hid (R.psi_start hfp hft)
  have Hsz := Lib.hid hsz
  obtain ⟨res, hres⟩ : ∃ res, R.prs fp ft = res := ⟨_, rfl⟩
  rw [hres] at HI0
  have Hres := Lib.hid hres
  obtain ⟨W1, hW1⟩ : ∃ W1, W1 = W.alloc (.cells #[.int .i64 (n : Int), .int .i64 (m : Int)] 118) := ⟨_, rfl⟩
  have HW1 := Lib.hid hW1
  have HS1 := Lib.hid (show OwnP W.heap.size W1 (.slice (some ⟨W.heap.size, 0, none⟩) 1 1) [(n, m)] from by rw [hW1]; exact OwnP.one W (n, m))
  have Hb1 := Lib.hid (show Below W.heap.size W W1 from by rw [hW1]; exact (Below.refl _ _).alloc (Nat.le_refl _) _)
  clear hP hT hop hot ha hfp hft hsz hres hW1
  go_enter Tryd.func74, Tryd.ntmps74
  go_wp2
  rw [← HW1.out]
  go_loopg [6, 7] (fp.size + 1) (fun gg v6 v7 wr => ∃ (O S : List (Nat × Nat)) (F G : T.F), gg = F.size + 1 ∧ Hid (Below W.heap.size W wr) ∧ Hid (R.PsI p t res O S F G) ∧ Hid (OwnP W.heap.size wr v6 O) ∧ Hid (OwnP W.heap.size wr v7 S.reverse) ∧ Hid (Apart v6 v7) ∧ Hid (O.length + F.size ≤ 300000))
  case atStart => exact ⟨[], [(n, m)], fp, ft, rfl, Hb1, HI0, Lib.hid (OwnP.nil_ _ _), HS1, Lib.hid (.inl rfl), Lib.hid (by have := Hsz.out; simpa using this)⟩
  case round =>
    obtain ⟨O, S, F, G, hgk, Hbw, HI, HO, HS, Hap, Hlen⟩ := hrel
    obtain ⟨gO, rfl⟩ : ∃ g, g = gk := ⟨_, rfl⟩
    obtain ⟨wr, rfl⟩ : ∃ w, w = wr := ⟨_, rfl⟩
    have HgO := Lib.hid hgk; clear hgk
    obtain ⟨A6, c6, rfl⟩ := HO.out.form
    cases S with
    | nil =>
      obtain ⟨A7, c7, rfl⟩ := HS.out.form
      obtain ⟨L, hL1, hL2⟩ := HI.out.end_
      have HL1 := Lib.hid hL1
      have HL2 := Lib.hid hL2
      clear hL1 hL2
      go_wp2
      go_ret2
      exact ⟨Hbw.out, .inr ⟨A6, c6, O, L, by rw [Hres.out, HL2.out], HL1.out, rfl, HO.out⟩⟩
    | cons q S =>
    obtain ⟨i, j⟩ := q
    obtain ⟨A7, c7, h7⟩ := HS.out.form
    obtain ⟨M, hM⟩ : ∃ M, S.length = M := ⟨_, rfl⟩
    have hM2 : ((i, j) :: S).reverse.length = M + 1 := by simp [hM]
    rw [hM2] at h7
    subst h7
    rw [List.reverse_cons] at HS
    obtain ⟨gs, os, hA7, s0, s1, hgs, hcap⟩ := HS.out.at_ (k := M) (q := (i, j)) (by simp [hM]) (by rw [List.getElem?_append_right (by simp [hM])]; simp [hM])
    subst hA7
    obtain ⟨x, y, k, r, k', r', HTp⟩ := HI.out.top
    have HTp := Lib.hid HTp
    have hin : i < n + 1 := by have := (List.getElem?_eq_some_iff.1 HTp.out.hx).1; rw [HP.out.len] at this; exact this
    have hjm : j < m + 1 := by have := (List.getElem?_eq_some_iff.1 HTp.out.hy).1; rw [HT.out.len] at this; exact this
    obtain ⟨x', bp, op, Ax, cx, hx', hAp, hbp, p0, p1, p2, p3, p4, psl, pi0, pi1⟩ := nd_cells HP.out hin
    obtain rfl : x' = x := by rw [HTp.out.hx] at hx'; exact (Option.some.inj hx').symm
    obtain ⟨y', bt, ot, Ay, cy, hy', hAt, hbt, t0, t1, t2, t3, t4, tsl, ti0, ti1⟩ := nd_cells HT.out hjm
    obtain rfl : y' = y := by rw [HTp.out.hy] at hy'; exact (Option.some.inj hy').symm
    subst hAp hAt
    have em : (M : Int) + 1 - 1 = (M : Int) := by omega
    have hO9 : O.length ≤ 300000 := by have := Hlen.out; omega
    have hM9 : M + 1 ≤ 300000 := by
      have h1 := T.len_size F
      have h2 := HI.out.rp.len
      rw [List.length_map, List.length_cons, hM] at h2
      have := Hlen.out
      omega
    have Hpc := Lib.hid (show ∀ X, Below W.heap.size W X → X.cell? ⟨bp, op + i * 5, none⟩ = some (.int .i64 x'.op) ∧ X.cell? ⟨bp, op + i * 5 + 1, none⟩ = some (.int .i64 x'.w) ∧ X.cell? ⟨bp, op + i * 5 + 2, none⟩ = some (.int .i64 x'.fl) ∧ X.cell? ⟨bp, op + i * 5 + 3, none⟩ = some (.slice Ax x'.args.length cx) ∧ X.cell? ⟨bp, op + i * 5 + 4, none⟩ = some (.int .u32 x'.imm) from fun X hX => ⟨(hX.cell (p := ⟨bp, op + i * 5, none⟩) hbp).trans p0, (hX.cell (p := ⟨bp, op + i * 5 + 1, none⟩) hbp).trans p1, (hX.cell (p := ⟨bp, op + i * 5 + 2, none⟩) hbp).trans p2, (hX.cell (p := ⟨bp, op + i * 5 + 3, none⟩) hbp).trans p3, (hX.cell (p := ⟨bp, op + i * 5 + 4, none⟩) hbp).trans p4⟩)
    have Htc := Lib.hid (show ∀ X, Below W.heap.size W X → X.cell? ⟨bt, ot + j * 5, none⟩ = some (.int .i64 y'.op) ∧ X.cell? ⟨bt, ot + j * 5 + 1, none⟩ = some (.int .i64 y'.w) ∧ X.cell? ⟨bt, ot + j * 5 + 2, none⟩ = some (.int .i64 y'.fl) ∧ X.cell? ⟨bt, ot + j * 5 + 3, none⟩ = some (.slice Ay y'.args.length cy) ∧ X.cell? ⟨bt, ot + j * 5 + 4, none⟩ = some (.int .u32 y'.imm) from fun X hX => ⟨(hX.cell (p := ⟨bt, ot + j * 5, none⟩) hbt).trans t0, (hX.cell (p := ⟨bt, ot + j * 5 + 1, none⟩) hbt).trans t1, (hX.cell (p := ⟨bt, ot + j * 5 + 2, none⟩) hbt).trans t2, (hX.cell (p := ⟨bt, ot + j * 5 + 3, none⟩) hbt).trans t3, (hX.cell (p := ⟨bt, ot + j * 5 + 4, none⟩) hbt).trans t4⟩)
    have Hpsl := Lib.hid psl
    have Htsl := Lib.hid tsl
    have HM := Lib.hid hM
    clear hx' hbp p0 p1 p2 p3 p4 psl pi0 pi1 hy' hbt t0 t1 t2 t3 t4 tsl ti0 ti1 hM hM2 hgs
    obtain ⟨X1, hX1⟩ : ∃ X1, X1 = wr.alloc (.cells #[.int .i64 (i : Int), .int .i64 (j : Int)] 118) := ⟨_, rfl⟩
    have hbX : Below wr.heap.size wr X1 := by rw [hX1]; exact (Below.refl _ _).alloc (Nat.le_refl _) _
    have hr8 : X1.heap[wr.heap.size]? = some (.cells #[.int .i64 (i : Int), .int .i64 (j : Int)] 118 (0, 0)) := by rw [hX1]; exact heap_alloc_new wr _
    have HX1 := Lib.hid hX1
    have HbX := Lib.hid hbX
    have Hr8 := Lib.hid hr8
    have HsX := Lib.hid (show X1.heap.size = wr.heap.size + 1 from by rw [hX1]; simp)
    have HO1 := Lib.hid (HO.out.below hbX)
    have HS1' := Lib.hid (HS.out.pop (by simp [HM.out]))
    have HS2 := Lib.hid (HS1'.out.below hbX)
    obtain ⟨z0, z1⟩ := pair_cells hr8
    rw [hX1] at z0 z1
    clear hX1 hbX hr8
    go_wp2_with (first
      | (at_builtin
         rw [← HX1.out]
         clear s0 s1 z0 z1
         refine wpList_append_cells rfl (.tmp 34) (.tmp 36) 114 rfl 118 (.agg #[.int .i64 0, .int .i64 0]) 2 16 Tryd.underlying114 infoPair rfl (.slice A6 O.length c6) O.length (flatP O) rfl HO1.out.1 #[.int .i64 (i : Int), .int .i64 (j : Int)] rfl (fun u hu => by simp at hu; rcases hu with rfl | rfl <;> rfl) _ (wr.heap.size + 1) HsX.out.symm rfl (by omega) (by decide) ?_
         intro v' w3 hown hgr hat
         have hba : Below X1.heap.size X1 (X1.alloc (.cells #[.int .i64 (i : Int), .int .i64 (j : Int)] 118)) := (Below.refl _ _).alloc (Nat.le_refl _) _
         have HO3 := Lib.hid (show OwnP W.heap.size w3 v' (O ++ [(i, j)]) from ⟨by rw [List.length_append, flatP_snoc]; exact hown, fun g hg => by
           rcases hat with e | e
           · rw [e] at hg; exact HO.out.2 g hg
           · rw [e] at hg; injection hg with hg; have := HsX.out; have := Hbw.out.size; omega⟩)
         have HS3 := Lib.hid ((HS2.out.below hba).kept hgr (by
           rcases Hap.out.symm with e | e
           · exact absurd e (by simp [Value.ownBlock])
           · right; simpa [Value.ownBlock] using e))
         have Hap3 := Lib.hid (show Apart v' (.slice (some ⟨gs, os, none⟩) M c7) from by
           have h := Apart.grow (u := v') Hap.out HS.out (s := X1.heap.size + 1) (by have := HbX.out.size; omega) hat
           rcases h with h | h
           · exact .inl h
           · right; simpa [Value.ownBlock] using h)
         have Hb3 := Lib.hid (show Below W.heap.size W w3 from ((Hbw.out.trans ((HbX.out.trans (hba.mono HbX.out.size)).mono Hbw.out.size)).grown hgr (by have := HbX.out.size; have := Hbw.out.size; simp; omega) (fun g hg => HO.out.2 g hg)))
         have Hr3 := Lib.hid ((hgr.block wr.heap.size (by have := HsX.out; simp; omega) (fun e => by have := HO.out.1.lt _ e.symm; omega)).trans ((hba.block _ (by have := HsX.out; omega)).trans Hr8.out))
         obtain ⟨A6', c6', h6'⟩ := HO3.out.form
         rw [show (O ++ [(i, j)]).length = O.length + 1 by simp] at h6'
         subst h6'
         clear hown hgr hat hba))
    go_cut [9, 10] (fun s9 s10 wx => ∃ ga gb : Nat, s9 = .pointer (some ⟨ga, 0, none⟩) ∧ s10 = .pointer (some ⟨gb, 0, none⟩) ∧ Hid (w3.heap.size ≤ ga ∧ w3.heap.size ≤ gb) ∧ Hid (Below w3.heap.size w3 wx) ∧ Hid (wx.heap[ga]? = some (.cells #[.int .i64 x'.op, .int .i64 x'.w, .int .i64 x'.fl, .slice Ax x'.args.length cx, .int .u32 x'.imm] 41 (0, 0))) ∧ Hid (wx.heap[gb]? = some (.cells #[.int .i64 y'.op, .int .i64 y'.w, .int .i64 y'.fl, .slice Ay y'.args.length cy, .int .u32 y'.imm] 41 (0, 0))))
    case first =>
      have br : Below w3.heap.size w3 w3 := (Below.refl _ _)
      obtain ⟨r0, r1⟩ := pair_cells ((br.block _ (Array.getElem?_eq_some_iff.1 Hr3.out).1).trans Hr3.out)
      obtain ⟨rp0, rp1, rp2, rp3, rp4⟩ := Hpc.out _ (Hb3.out.trans (br.mono Hb3.out.size))
      obtain ⟨rt0, rt1, rt2, rt3, rt4⟩ := Htc.out _ (Hb3.out.trans (br.mono Hb3.out.size))
      clear br
      have bu : Below w3.heap.size w3 (w3.alloc (.cells #[.int .i64 0, .int .i64 0, .int .i64 0, .slice none 0 0, .int .u32 0] 41)) := ((Below.refl _ _).alloc (Nat.le_refl _) _)
      obtain ⟨u0, u1⟩ := pair_cells ((bu.block _ (Array.getElem?_eq_some_iff.1 Hr3.out).1).trans Hr3.out)
      obtain ⟨up0, up1, up2, up3, up4⟩ := Hpc.out _ (Hb3.out.trans (bu.mono Hb3.out.size))
      obtain ⟨ut0, ut1, ut2, ut3, ut4⟩ := Htc.out _ (Hb3.out.trans (bu.mono Hb3.out.size))
      clear bu
      have bv : Below w3.heap.size w3 ((w3.alloc (.cells #[.int .i64 0, .int .i64 0, .int .i64 0, .slice none 0 0, .int .u32 0] 41)).alloc (.cells #[.int .i64 0, .int .i64 0, .int .i64 0, .slice none 0 0, .int .u32 0] 41)) := (((Below.refl _ _).alloc (Nat.le_refl _) _).alloc (by simp) _)
      obtain ⟨v0, v1⟩ := pair_cells ((bv.block _ (Array.getElem?_eq_some_iff.1 Hr3.out).1).trans Hr3.out)
      obtain ⟨vp0, vp1, vp2, vp3, vp4⟩ := Hpc.out _ (Hb3.out.trans (bv.mono Hb3.out.size))
      obtain ⟨vt0, vt1, vt2, vt3, vt4⟩ := Htc.out _ (Hb3.out.trans (bv.mono Hb3.out.size))
      clear bv
      have bs : Below w3.heap.size w3 ((w3.alloc (.cells #[.int .i64 0, .int .i64 0, .int .i64 0, .slice none 0 0, .int .u32 0] 41)).alloc (.cells #[.int .i64 x'.op, .int .i64 x'.w, .int .i64 x'.fl, .slice Ax x'.args.length cx, .int .u32 x'.imm] 41)) := (((Below.refl _ _).alloc (Nat.le_refl _) _).alloc (by simp) _)
      obtain ⟨s0, s1⟩ := pair_cells ((bs.block _ (Array.getElem?_eq_some_iff.1 Hr3.out).1).trans Hr3.out)
      obtain ⟨sp0, sp1, sp2, sp3, sp4⟩ := Hpc.out _ (Hb3.out.trans (bs.mono Hb3.out.size))
      obtain ⟨st0, st1, st2, st3, st4⟩ := Htc.out _ (Hb3.out.trans (bs.mono Hb3.out.size))
      clear bs
      have bt : Below w3.heap.size w3 ((w3.alloc (.cells #[.int .i64 x'.op, .int .i64 x'.w, .int .i64 x'.fl, .slice Ax x'.args.length cx, .int .u32 x'.imm] 41)).alloc (.cells #[.int .i64 0, .int .i64 0, .int .i64 0, .slice none 0 0, .int .u32 0] 41)) := (((Below.refl _ _).alloc (Nat.le_refl _) _).alloc (by simp) _)
      obtain ⟨t0, t1⟩ := pair_cells ((bt.block _ (Array.getElem?_eq_some_iff.1 Hr3.out).1).trans Hr3.out)
      obtain ⟨tp0, tp1, tp2, tp3, tp4⟩ := Hpc.out _ (Hb3.out.trans (bt.mono Hb3.out.size))
      obtain ⟨tt0, tt1, tt2, tt3, tt4⟩ := Htc.out _ (Hb3.out.trans (bt.mono Hb3.out.size))
      clear bt
      go_region
      · go_wp2_with fail
        have hb1 : Below w3.heap.size w3 ((w3.alloc (.cells #[.int .i64 x'.op, .int .i64 x'.w, .int .i64 x'.fl, .slice Ax x'.args.length cx, .int .u32 x'.imm] 41)).alloc (.cells #[.int .i64 y'.op, .int .i64 y'.w, .int .i64 y'.fl, .slice Ay y'.args.length cy, .int .u32 y'.imm] 41)).drew := (((Below.refl _ _).alloc (Nat.le_refl _) _).alloc (by simp) _).drew
        have hra : ((w3.alloc (.cells #[.int .i64 x'.op, .int .i64 x'.w, .int .i64 x'.fl, .slice Ax x'.args.length cx, .int .u32 x'.imm] 41)).alloc (.cells #[.int .i64 y'.op, .int .i64 y'.w, .int .i64 y'.fl, .slice Ay y'.args.length cy, .int .u32 y'.imm] 41)).drew.heap[w3.heap.size]? = some (.cells #[.int .i64 x'.op, .int .i64 x'.w, .int .i64 x'.fl, .slice Ax x'.args.length cx, .int .u32 x'.imm] 41 (0, 0)) := row_alloc (heap_alloc_new w3 _) _
        have hrb : ((w3.alloc (.cells #[.int .i64 x'.op, .int .i64 x'.w, .int .i64 x'.fl, .slice Ax x'.args.length cx, .int .u32 x'.imm] 41)).alloc (.cells #[.int .i64 y'.op, .int .i64 y'.w, .int .i64 y'.fl, .slice Ay y'.args.length cy, .int .u32 y'.imm] 41)).drew.heap[w3.heap.size + 1]? = some (.cells #[.int .i64 y'.op, .int .i64 y'.w, .int .i64 y'.fl, .slice Ay y'.args.length cy, .int .u32 y'.imm] 41 (0, 0)) := new_two w3 _ _
        go_meet
        exact ⟨w3.heap.size, w3.heap.size + 1, rfl, rfl, Lib.hid ⟨by omega, by omega⟩, Lib.hid hb1, Lib.hid hra, Lib.hid hrb⟩
      · go_wp2_with fail
        have hb1 : Below w3.heap.size w3 ((w3.alloc (.cells #[.int .i64 y'.op, .int .i64 y'.w, .int .i64 y'.fl, .slice Ay y'.args.length cy, .int .u32 y'.imm] 41)).alloc (.cells #[.int .i64 x'.op, .int .i64 x'.w, .int .i64 x'.fl, .slice Ax x'.args.length cx, .int .u32 x'.imm] 41)).drew := (((Below.refl _ _).alloc (Nat.le_refl _) _).alloc (by simp) _).drew
        have hra : ((w3.alloc (.cells #[.int .i64 y'.op, .int .i64 y'.w, .int .i64 y'.fl, .slice Ay y'.args.length cy, .int .u32 y'.imm] 41)).alloc (.cells #[.int .i64 x'.op, .int .i64 x'.w, .int .i64 x'.fl, .slice Ax x'.args.length cx, .int .u32 x'.imm] 41)).drew.heap[w3.heap.size]? = some (.cells #[.int .i64 y'.op, .int .i64 y'.w, .int .i64 y'.fl, .slice Ay y'.args.length cy, .int .u32 y'.imm] 41 (0, 0)) := row_alloc (heap_alloc_new w3 _) _
        have hrb : ((w3.alloc (.cells #[.int .i64 y'.op, .int .i64 y'.w, .int .i64 y'.fl, .slice Ay y'.args.length cy, .int .u32 y'.imm] 41)).alloc (.cells #[.int .i64 x'.op, .int .i64 x'.w, .int .i64 x'.fl, .slice Ax x'.args.length cx, .int .u32 x'.imm] 41)).drew.heap[w3.heap.size + 1]? = some (.cells #[.int .i64 x'.op, .int .i64 x'.w, .int .i64 x'.fl, .slice Ax x'.args.length cx, .int .u32 x'.imm] 41 (0, 0)) := new_two w3 _ _
        go_meet
        exact ⟨w3.heap.size + 1, w3.heap.size, rfl, rfl, Lib.hid ⟨by omega, by omega⟩, Lib.hid hb1, Lib.hid hrb, Lib.hid hra⟩
    case rest =>
    obtain ⟨ga, gb, rfl, rfl, Hgg, Hb6, HrA, HrB⟩ := hcut
    obtain ⟨w6, hw6⟩ : ∃ w6, w6 = wc := ⟨_, rfl⟩
    rw [← hw6] at Hb6 HrA HrB ⊢
    clear hw6
    obtain ⟨xa0, xa1, xa2, xa3, xa4, _⟩ := nd5_all HrA.out
    obtain ⟨xb0, xb1, xb2, xb3, xb4, _⟩ := nd5_all HrB.out
    have HO6 := Lib.hid (HO3.out.below Hb6.out)
    have HS6 := Lib.hid (HS3.out.below Hb6.out)
    have HbW6 := Lib.hid (Hb3.out.trans (Hb6.out.mono Hb3.out.size))
    have Hsz6 := Lib.hid HTp.out.size
    by_cases h33 : x'.op = 33
    · have q33 : (x'.op == 33) = true := by simpa using h33
      have Hlf := Lib.hid (HI.out.leaf HTp.out (.inl h33))
      clear h33
      go_wp2
      go_roundg (r.size + 1)
      case measure => have := HgO.out; have := Hsz6.out; omega
      case rel => exact ⟨_, S, r, r', rfl, HbW6, Hlf, HO6, HS6, Hap3, Lib.hid (by have := Hlen.out; have := Hsz6.out; rw [List.length_append]; simp; omega)⟩
    have q33 : (x'.op == 33) = false := by simpa using h33
    by_cases h34 : x'.op = 34
    · have q34 : (x'.op == 34) = true := by simpa using h34
      by_cases hy0 : y'.op = 0
      · have q0 : (y'.op != 0) = false := by simpa using hy0
        have Hlf := Lib.hid (HI.out.leaf HTp.out (.inr ⟨h34, hy0⟩))
        clear h33 h34 hy0
        go_wp2
        go_roundg (r.size + 1)
        case measure => have := HgO.out; have := Hsz6.out; omega
        case rel => exact ⟨_, S, r, r', rfl, HbW6, Hlf, HO6, HS6, Hap3, Lib.hid (by have := Hlen.out; have := Hsz6.out; rw [List.length_append]; simp; omega)⟩
      · have q0 : (y'.op != 0) = true := by simpa using hy0
        have Hbad := Lib.hid (HI.out.bad HTp.out h33 (.inl ⟨h34, hy0⟩))
        clear h33 h34 hy0
        go_wp2
        go_ret2
        exact ⟨HbW6.out, .inl ⟨by rw [Hres.out, Hbad.out], rfl⟩⟩
    have q34 : (x'.op == 34) = false := by simpa using h34
    by_cases ho : x'.op = y'.op
    rotate_left
    · have qo : (x'.op != y'.op) = true := by simpa using ho
      have Hbad := Lib.hid (HI.out.bad HTp.out h33 (.inr ⟨h34, .inl ho⟩))
      clear h33 h34 ho
      go_wp2
      go_ret2
      exact ⟨HbW6.out, .inl ⟨by rw [Hres.out, Hbad.out], rfl⟩⟩
    have qo : (x'.op != y'.op) = false := by simpa using ho
    obtain ⟨L, hL⟩ : ∃ L, x'.args.length = L := ⟨_, rfl⟩
    obtain ⟨L2, hL2⟩ : ∃ L, y'.args.length = L := ⟨_, rfl⟩
    rw [hL] at xa3
    rw [hL2] at xb3
    have hL3 : L ≤ 3 := by rw [← hL]; exact Ha.out _ (List.mem_of_getElem? HTp.out.hx)
    by_cases hl : L = L2
    rotate_left
    · have ql : ((L : Int) != (L2 : Int)) = true := by simp; omega
      have hleL2 : L2 ≤ 9223372036854775807 := by rw [← hL2]; exact Htsl.out.le
      have Hbad := Lib.hid (HI.out.bad HTp.out h33 (.inr ⟨h34, .inr (by rw [hL, hL2]; exact hl)⟩))
      clear h33 h34 ho hl hL hL2
      go_wp2
      go_ret2
      exact ⟨HbW6.out, .inl ⟨by rw [Hres.out, Hbad.out], rfl⟩⟩
    subst hl
    have ql : ((L : Int) != (L : Int)) = false := by simp
    have Hgd := Lib.hid (HI.out.good HTp.out h33 h34 ho (hL.trans hL2.symm) (fun a ha => (Hop.out _ _ HTp.out.hx a ha).1) (fun a ha => (Hot.out _ _ HTp.out.hy a ha).1))
    have HL := Lib.hid hL
    have HL2 := Lib.hid hL2
    have Hzl := Lib.hid ((R.zp_len (x := x') (y := y') (hL.trans hL2.symm)).trans hL)
    have HS9 := Lib.hid (show S.length + L ≤ 300000 from by
      have h1 := T.len_size (k.app r)
      have h2 := Hgd.out.rp.len
      rw [List.length_map, List.length_append, Hzl.out] at h2
      rw [T.size_app] at h1
      have := Hlen.out
      have := Hsz6.out
      omega)
    rw [hL] at HrA
    rw [hL2] at HrB
    clear h33 h34 ho hL hL2
    go_wp2
    clear xa0 xa1 xa2 xa3 xa4 xb0 xb1 xb2 xb3 xb4
    go_loopg [7, 11] (L + 1) (fun gg v7 i2 wq => ∃ e : Nat, e ≤ L ∧ i2 = .int .i64 ((e : Int) - 1) ∧ gg = e + 1 ∧ Hid (Below W.heap.size W wq) ∧ Hid (wq.heap[ga]? = some (.cells #[.int .i64 x'.op, .int .i64 x'.w, .int .i64 x'.fl, .slice Ax L cx, .int .u32 x'.imm] 41 (0, 0))) ∧ Hid (wq.heap[gb]? = some (.cells #[.int .i64 y'.op, .int .i64 y'.w, .int .i64 y'.fl, .slice Ay L cy, .int .u32 y'.imm] 41 (0, 0))) ∧ Hid (OwnP W.heap.size wq (.slice A6' (O.length + 1) c6') (O ++ [(i, j)])) ∧ Hid (OwnP W.heap.size wq v7 (S.reverse ++ ((R.zp x' y').drop e).reverse)) ∧ Hid (Apart (.slice A6' (O.length + 1) c6') v7))
    case atStart => exact ⟨L, Nat.le_refl _, rfl, rfl, HbW6, HrA, HrB, HO6, Lib.hid (by rw [List.drop_of_length_le (by rw [Hzl.out]; exact Nat.le_refl _)]; simpa using HS6.out), Hap3⟩
    case round =>
      obtain ⟨e, he, hi, hgk, Hbq, HqA, HqB, HqO, HqS, Hqp⟩ := hrel
      obtain ⟨wq, rfl⟩ : ∃ w, w = wr := ⟨_, rfl⟩
      have Hgk := Lib.hid hgk; clear hgk
      cases e with
      | zero =>
        subst hi
        have Hst := Lib.hid (show OwnP W.heap.size wq u7 (R.zp x' y' ++ S).reverse from by have := HqS.out; rw [List.drop_zero] at this; rw [List.reverse_append]; exact this)
        go_wp2
        go_roundg ((k.app r).size + 1)
        case measure => have := HgO.out; have := Hsz6.out; rw [T.size_app]; omega
        case rel => exact ⟨_, _, _, _, rfl, Hbq, Hgd, HqO, Hst, Hqp, Lib.hid (by have := Hlen.out; have := Hsz6.out; rw [List.length_append, T.size_app]; simp; omega)⟩
      | succ e =>
        rw [show ((e + 1 : Nat) : Int) - 1 = (e : Int) by omega] at hi
        subst hi
        have qge : decide ((0 : Int) ≤ (e : Int)) = true := by simp
        obtain ⟨a, ba, oa, ua, ha1, hAx, hba, ca, rfl⟩ := Hpsl.out.at_ (show e < x'.args.length by rw [HL.out]; omega)
        obtain ⟨b, bb, ob, ub, hb1, hAy, hbb, cb, rfl⟩ := Htsl.out.at_ (show e < y'.args.length by rw [HL2.out]; omega)
        subst hAx hAy
        have Hza := Lib.hid (R.zp_at ha1 hb1)
        have ha0 := (Hop.out _ _ HTp.out.hx a (List.mem_of_getElem? ha1)).1
        have hb0 := (Hot.out _ _ HTp.out.hy b (List.mem_of_getElem? hb1)).1
        obtain ⟨a, rfl⟩ : ∃ z : Nat, a = z := ⟨a.toNat, by omega⟩
        obtain ⟨b, rfl⟩ : ∃ z : Nat, b = z := ⟨b.toNat, by omega⟩
        rw [Int.toNat_natCast, Int.toNat_natCast] at Hza
        have Hst := Lib.hid (show S.reverse ++ ((R.zp x' y').drop (e + 1)).reverse ++ [(a, b)] = S.reverse ++ ((R.zp x' y').drop e).reverse from by
          have hlt := (List.getElem?_eq_some_iff.1 Hza.out).1
          have hv := (List.getElem?_eq_some_iff.1 Hza.out).2
          rw [List.drop_eq_getElem_cons hlt, hv, List.reverse_cons, List.append_assoc])
        obtain ⟨A7', c7', h7'⟩ := HqS.out.form
        obtain ⟨Q, hQ⟩ : ∃ Q, (S.reverse ++ ((R.zp x' y').drop (e + 1)).reverse).length = Q := ⟨_, rfl⟩
        have hQ9 : Q ≤ 300000 := by
          rw [← hQ, List.length_append, List.length_reverse, List.length_reverse, List.length_drop, Hzl.out]
          have := HS9.out
          omega
        rw [hQ] at h7'
        subst h7'
        have HQ := Lib.hid hQ
        have HS := Lib.hid (show ∀ Y, Below W.heap.size W Y → Y.heap[ga]? = some (.cells #[.int .i64 x'.op, .int .i64 x'.w, .int .i64 x'.fl, .slice (some ⟨ba, oa, none⟩) L cx, .int .u32 x'.imm] 41 (0, 0)) → Y.heap[gb]? = some (.cells #[.int .i64 y'.op, .int .i64 y'.w, .int .i64 y'.fl, .slice (some ⟨bb, ob, none⟩) L cy, .int .u32 y'.imm] 41 (0, 0)) → Y.cell? ⟨ga, 3, none⟩ = some (.slice (some ⟨ba, oa, none⟩) L cx) ∧ Y.cell? ⟨gb, 3, none⟩ = some (.slice (some ⟨bb, ob, none⟩) L cy) ∧ Y.cell? ⟨ba, oa + e, none⟩ = some (.int .i64 (a : Int)) ∧ Y.cell? ⟨bb, ob + e, none⟩ = some (.int .i64 (b : Int)) from fun Y hY rA rB => by
          obtain ⟨_, _, _, c3, _⟩ := nd5_all rA
          obtain ⟨_, _, _, d3, _⟩ := nd5_all rB
          exact ⟨c3, d3, (hY.cell (p := ⟨ba, oa + e, none⟩) hba).trans ca, (hY.cell (p := ⟨bb, ob + e, none⟩) hbb).trans cb⟩)
        have HeL := Lib.hid (show e < L by omega)
        have heL : e < L := by omega
        clear ha1 hb1 hba hbb ca cb ha0 hb0 hQ he
        go_upto_region 17 with (fail)
        refine wp_region_held_drew (S := fun Y => Y.cell? ⟨ga, 3, none⟩ = some (.slice (some ⟨ba, oa, none⟩) L cx) ∧ Y.cell? ⟨gb, 3, none⟩ = some (.slice (some ⟨bb, ob, none⟩) L cy) ∧ Y.cell? ⟨ba, oa + e, none⟩ = some (.int .i64 (a : Int)) ∧ Y.cell? ⟨bb, ob + e, none⟩ = some (.int .i64 (b : Int))) (by kernel_rfl) (HS.out wq.drew Hbq.out.drew HqA.out HqB.out) (fun hHeld => ?_)
        refine wpAnyH_take (i := 0) (oi := _) (v := ?_) rfl (by kernel_rfl) (by kernel_rfl) (by kernel_rfl) (fun _ _ _ h => h) (Or.inl ⟨by rfl, fun Y hY => ?_⟩) hHeld ?_
        rotate_left
        · (go_simp) <;> with_reducible rfl
        try simp only [Act.put, List.setIfInBounds_toArray, List.set_cons_zero, List.set_cons_succ, List.getElem_toArray, List.getElem_cons_succ, List.getElem_cons_zero]
        refine wpAnyH_take (i := 1) (oi := _) (v := ?_) rfl (by kernel_rfl) (by kernel_rfl) (by kernel_rfl) (fun _ _ _ h => h) (Or.inl ⟨by rfl, fun Y hY => ?_⟩) hHeld ?_
        rotate_left
        · (go_simp) <;> with_reducible rfl
        try simp only [Act.put, List.setIfInBounds_toArray, List.set_cons_zero, List.set_cons_succ, List.getElem_toArray, List.getElem_cons_succ, List.getElem_cons_zero]
        refine wpAnyH_take (i := 2) (oi := _) (v := ?_) rfl (by kernel_rfl) (by kernel_rfl) (by kernel_rfl) (fun _ _ _ h => h) (Or.inl ⟨by rfl, fun Y hY => ?_⟩) hHeld ?_
        rotate_left
        · obtain ⟨y0, y1, y2, y3⟩ := hY
          (go_simp) <;> with_reducible rfl
        try simp only [Act.put, List.setIfInBounds_toArray, List.set_cons_zero, List.set_cons_succ, List.getElem_toArray, List.getElem_cons_succ, List.getElem_cons_zero]
        refine wpAnyH_take (i := 3) (oi := _) (v := ?_) rfl (by kernel_rfl) (by kernel_rfl) (by kernel_rfl) (fun _ _ _ h => h) (Or.inl ⟨by rfl, fun Y hY => ?_⟩) hHeld ?_
        rotate_left
        · (go_simp) <;> with_reducible rfl
        try simp only [Act.put, List.setIfInBounds_toArray, List.set_cons_zero, List.set_cons_succ, List.getElem_toArray, List.getElem_cons_succ, List.getElem_cons_zero]
        refine wpAnyH_take (i := 4) (oi := _) (v := ?_) rfl (by kernel_rfl) (by kernel_rfl) (by kernel_rfl) (fun _ _ _ h => h) (Or.inl ⟨by rfl, fun Y hY => ?_⟩) hHeld ?_
        rotate_left
        · (go_simp) <;> with_reducible rfl
        try simp only [Act.put, List.setIfInBounds_toArray, List.set_cons_zero, List.set_cons_succ, List.getElem_toArray, List.getElem_cons_succ, List.getElem_cons_zero]
        refine wpAnyH_take (i := 5) (oi := _) (v := ?_) rfl (by kernel_rfl) (by kernel_rfl) (by kernel_rfl) (fun _ _ _ h => h) (Or.inl ⟨by rfl, fun Y hY => ?_⟩) hHeld ?_
        rotate_left
        · obtain ⟨y0, y1, y2, y3⟩ := hY
          (go_simp) <;> with_reducible rfl
        try simp only [Act.put, List.setIfInBounds_toArray, List.set_cons_zero, List.set_cons_succ, List.getElem_toArray, List.getElem_cons_succ, List.getElem_cons_zero]
        refine wpAnyH_take (i := 6) (oi := _) (v := ?_) rfl (by kernel_rfl) (by kernel_rfl) (by kernel_rfl) (fun _ _ _ h => h) (Or.inl ⟨by rfl, fun Y hY => ?_⟩) hHeld ?_
        rotate_left
        · (go_simp) <;> with_reducible rfl
        try simp only [Act.put, List.setIfInBounds_toArray, List.set_cons_zero, List.set_cons_succ, List.getElem_toArray, List.getElem_cons_succ, List.getElem_cons_zero]
        refine wpAnyH_take (i := 7) (oi := _) (v := ?_) rfl (by kernel_rfl) (by kernel_rfl) (by kernel_rfl) (fun _ _ _ h => h) (Or.inl ⟨by rfl, fun Y hY => ?_⟩) hHeld ?_
        rotate_left
        · obtain ⟨y0, y1, y2, y3⟩ := hY
          (go_simp) <;> with_reducible rfl
        try simp only [Act.put, List.setIfInBounds_toArray, List.set_cons_zero, List.set_cons_succ, List.getElem_toArray, List.getElem_cons_succ, List.getElem_cons_zero]
        refine wpAnyH_take (i := 8) (oi := _) (v := ?_) rfl (by kernel_rfl) (by kernel_rfl) (by kernel_rfl) (fun _ _ _ h => h) (Or.inl ⟨by rfl, fun Y hY => ?_⟩) hHeld ?_
        rotate_left
        · (go_simp) <;> with_reducible rfl
        try simp only [Act.put, List.setIfInBounds_toArray, List.set_cons_zero, List.set_cons_succ, List.getElem_toArray, List.getElem_cons_succ, List.getElem_cons_zero]
        refine wpAnyH_take (i := 9) (oi := _) (v := ?_) rfl (by kernel_rfl) (by kernel_rfl) (by kernel_rfl) (fun _ _ _ h => h) (Or.inl ⟨by rfl, fun Y hY => ?_⟩) hHeld ?_
        rotate_left
        · (go_simp) <;> with_reducible rfl
        try simp only [Act.put, List.setIfInBounds_toArray, List.set_cons_zero, List.set_cons_succ, List.getElem_toArray, List.getElem_cons_succ, List.getElem_cons_zero]
        refine wpAnyH_take (i := 10) (oi := _) (v := ?_) rfl (by kernel_rfl) (by kernel_rfl) (by kernel_rfl) (fun _ _ _ h => h) (Or.inl ⟨by rfl, fun Y hY => ?_⟩) hHeld ?_
        rotate_left
        · obtain ⟨y0, y1, y2, y3⟩ := hY
          (go_simp) <;> with_reducible rfl
        try simp only [Act.put, List.setIfInBounds_toArray, List.set_cons_zero, List.set_cons_succ, List.getElem_toArray, List.getElem_cons_succ, List.getElem_cons_zero]
        refine wpAnyH_take (i := 11) (oi := _) (v := ?_) rfl (by kernel_rfl) (by kernel_rfl) (by kernel_rfl) (fun _ _ _ h => h) (Or.inl ⟨by rfl, fun Y hY => ?_⟩) hHeld ?_
        rotate_left
        · (go_simp) <;> with_reducible rfl
        try simp only [Act.put, List.setIfInBounds_toArray, List.set_cons_zero, List.set_cons_succ, List.getElem_toArray, List.getElem_cons_succ, List.getElem_cons_zero]
        refine wpAnyH_ready (rs := [12]) (by kernel_rfl) (by simp) ?_
        refine AllReadyH.cons (o := _) rfl (fun KK hKK => ?_) AllReadyH.nil
        clear hHeld
        go_simp
        obtain ⟨xa, hxa⟩ : ∃ xa, xa = (wq.alloc (.cells #[.int .i64 (a : Int), .int .i64 (b : Int)] 118)).drew := ⟨_, rfl⟩
        rw [← hxa]
        have hba : Below wq.heap.size wq xa := by rw [hxa]; exact ((Below.refl _ _).alloc (Nat.le_refl _) _).drew
        have Hrg := Lib.hid (show xa.heap[wq.heap.size]? = some (.cells #[.int .i64 (a : Int), .int .i64 (b : Int)] 118 (0, 0)) from by rw [hxa]; exact heap_alloc_new wq _)
        have HAx := Lib.hid ((hba.block _ (Array.getElem?_eq_some_iff.1 HqA.out).1).trans HqA.out)
        have HBx := Lib.hid ((hba.block _ (Array.getElem?_eq_some_iff.1 HqB.out).1).trans HqB.out)
        have HOx := Lib.hid (HqO.out.below hba)
        have HSx := Lib.hid (HqS.out.below hba)
        have Hbx := Lib.hid (Hbq.out.trans (hba.mono Hbq.out.size))
        have Hsx := Lib.hid hba.size
        obtain ⟨gp, hgp⟩ : ∃ gp, gp = wq.heap.size := ⟨_, rfl⟩
        rw [← hgp] at Hrg ⊢
        clear hba hxa hgp
        refine hKK.out _ _ (HS.out xa Hbx.out HAx.out HBx.out) (fun hHeld => ?_)
        clear hKK KK
        try simp only [Act.put, List.setIfInBounds_toArray, List.set_cons_zero, List.set_cons_succ, List.getElem_toArray, List.getElem_cons_succ, List.getElem_cons_zero]
        refine wpAnyH_ready (rs := [13]) (by kernel_rfl) (by simp) ?_
        refine AllReadyH.cons (o := _) rfl (fun KK hKK => ?_) AllReadyH.nil
        clear hHeld
        refine step_append_src xa rfl (.tmp 79) (.tmp 91) 114 rfl 118 (.agg #[.int .i64 0, .int .i64 0]) 2 16 Tryd.underlying114 infoPair rfl (by decide) (.slice A7' Q c7') Q (flatP (S.reverse ++ ((R.zp x' y').drop (e + 1)).reverse)) rfl (by have := HSx.out.1; rw [HQ.out] at this; exact this) (some ⟨gp, 0, none⟩) 1 1 [.int .i64 (a : Int), .int .i64 (b : Int)] rfl rfl (fun j u hu => ⟨_, rfl, by rw [addr_add_zero, Nat.zero_add, cell_of_row _ _ _ _ _ (0, 0) Hrg.out]; simpa using hu⟩) (fun u hu => by simp at hu; rcases hu with rfl | rfl <;> rfl) (by omega) (by decide) ?_
        intro v' w8 hown hgr hat
        have hne : ∀ g cur T fr, xa.heap[g]? = some (.cells cur T fr) → T = 41 → some g ≠ (Value.slice A7' Q c7').ownBlock := fun g cur T fr hg hT e => by
          obtain ⟨cur', hc⟩ := HSx.out.1.typed g e.symm
          rw [hg] at hc
          injection hc with hc
          injection hc with _ hc _
          rw [hT] at hc
          revert hc
          decide
        have HA8 := Lib.hid ((hgr.block ga (Array.getElem?_eq_some_iff.1 HAx.out).1 (hne _ _ _ _ HAx.out rfl)).trans HAx.out)
        have HB8 := Lib.hid ((hgr.block gb (Array.getElem?_eq_some_iff.1 HBx.out).1 (hne _ _ _ _ HBx.out rfl)).trans HBx.out)
        have Hb8 := Lib.hid (Hbx.out.grown hgr Hbx.out.size (fun g hg => HSx.out.2 g hg))
        have HO8 := Lib.hid (HOx.out.kept hgr Hqp.out)
        have HS8 := Lib.hid (show OwnP W.heap.size w8 v' (S.reverse ++ ((R.zp x' y').drop e).reverse) from by
          rw [← Hst.out]
          refine ⟨by rw [List.length_append, HQ.out, flatP_snoc]; exact hown, fun g hg => ?_⟩
          rcases hat with e1 | e1
          · rw [e1] at hg; exact HSx.out.2 g hg
          · rw [e1] at hg; injection hg with hg; rw [← hg]; exact Hbx.out.size)
        have Hp8 := Lib.hid (show Apart (.slice A6' (O.length + 1) c6') v' from (Apart.grow (u := v') Hqp.out.symm HqO.out (s := xa.heap.size) Hsx.out hat).symm)
        clear hown hgr hat hne
        refine hKK.out _ _ (HS.out w8 Hb8.out HA8.out HB8.out) (fun hHeld => ?_)
        clear hKK KK
        try simp only [Act.put, List.setIfInBounds_toArray, List.set_cons_zero, List.set_cons_succ, List.getElem_toArray, List.getElem_cons_succ, List.getElem_cons_zero]
        refine wpAnyH_take (i := 14) (oi := _) (v := ?_) rfl (by kernel_rfl) (by kernel_rfl) (by kernel_rfl) (fun _ _ _ h => h) (Or.inl ⟨by rfl, fun Y hY => ?_⟩) hHeld ?_
        rotate_left
        · (go_simp) <;> with_reducible rfl
        try simp only [Act.put, List.setIfInBounds_toArray, List.set_cons_zero, List.set_cons_succ, List.getElem_toArray, List.getElem_cons_succ, List.getElem_cons_zero]
        refine wpAnyH_done (by kernel_rfl) ?_ _
        go_wp2
        go_roundg (gk - 1)
        case measure => have := Hgk.out; omega
        case rel =>
          have := Hgk.out
          exact ⟨e, by have := HeL.out; omega, by go_num, by omega, Hb8, HA8, HB8, HO8, HS8, Hp8⟩
end Go.Proofs.YtmebpgggfppmhaaDoor
end
section
namespace Go.Proofs.YtmebpgggfppmhaaDoor
open Go.RowKit
set_option linter.unusedVariables false
set_option linter.unusedSimpArgs false

/-- the blocks of what is bound -/
structure RwS (w : World) (gb g0 g1 g2 g3 : Nat) (ts hs ns gs : Array Value) : Prop where
  rb : w.heap[gb]? = some (.cells #[.slice (some ⟨g0, 0, none⟩) 4 4, .slice (some ⟨g1, 0, none⟩) 4 4, .slice (some ⟨g2, 0, none⟩) 2 2, .slice (some ⟨g3, 0, none⟩) 2 2] 81 (0, 0))
  r0 : w.heap[g0]? = some (.cells ts 22 (0, 0))
  r1 : w.heap[g1]? = some (.cells hs 4 (0, 0))
  r2 : w.heap[g2]? = some (.cells ns 39 (0, 0))
  r3 : w.heap[g3]? = some (.cells gs 4 (0, 0))
theorem blocks_ne {w : World} {a b : Nat} {c1 c2 : Array Value} {T1 T2 : TypeId} {f1 f2 : Nat × Nat} (h1 : w.heap[a]? = some (.cells c1 T1 f1)) (h2 : w.heap[b]? = some (.cells c2 T2 f2)) (hT : T1 ≠ T2) : a ≠ b := fun e => by
  subst e
  rw [h1] at h2
  injection h2 with h2
  injection h2 with _ h2 _
  exact hT h2
section
variable {w w' : World} {gb g0 g1 g2 g3 : Nat} {ts hs ns gs : Array Value}
theorem RwS.below (h : RwS w gb g0 g1 g2 g3 ts hs ns gs) (hb : Below w.heap.size w w') : RwS w' gb g0 g1 g2 g3 ts hs ns gs :=
  ⟨(hb.block _ (Array.getElem?_eq_some_iff.1 h.rb).1).trans h.rb, (hb.block _ (Array.getElem?_eq_some_iff.1 h.r0).1).trans h.r0, (hb.block _ (Array.getElem?_eq_some_iff.1 h.r1).1).trans h.r1, (hb.block _ (Array.getElem?_eq_some_iff.1 h.r2).1).trans h.r2, (hb.block _ (Array.getElem?_eq_some_iff.1 h.r3).1).trans h.r3⟩
theorem RwS.cells (h : RwS w gb g0 g1 g2 g3 ts hs ns gs) : w.cell? ⟨gb, 0, none⟩ = some (.slice (some ⟨g0, 0, none⟩) 4 4) ∧ w.cell? ⟨gb, 1, none⟩ = some (.slice (some ⟨g1, 0, none⟩) 4 4) ∧ w.cell? ⟨gb, 2, none⟩ = some (.slice (some ⟨g2, 0, none⟩) 2 2) ∧ w.cell? ⟨gb, 3, none⟩ = some (.slice (some ⟨g3, 0, none⟩) 2 2) := by
  refine ⟨?_, ?_, ?_, ?_⟩
  all_goals rw [cell_of_row _ _ _ _ _ (0, 0) h.rb]; rfl
theorem RwS.setT (h : RwS w gb g0 g1 g2 g3 ts hs ns gs) (i : Nat) (v : Value) : RwS (w.setCell ⟨g0, i, none⟩ v) gb g0 g1 g2 g3 (ts.setIfInBounds i v) hs ns gs :=
  ⟨(heap_setCell_other _ ⟨g0, i, none⟩ _ _ (blocks_ne h.rb h.r0 (by decide))).trans h.rb, heap_setCell_same _ _ _ _ _ _ h.r0, (heap_setCell_other _ ⟨g0, i, none⟩ _ _ (blocks_ne h.r1 h.r0 (by decide))).trans h.r1, (heap_setCell_other _ ⟨g0, i, none⟩ _ _ (blocks_ne h.r2 h.r0 (by decide))).trans h.r2, (heap_setCell_other _ ⟨g0, i, none⟩ _ _ (blocks_ne h.r3 h.r0 (by decide))).trans h.r3⟩
theorem RwS.setH (h : RwS w gb g0 g1 g2 g3 ts hs ns gs) (hne : g1 ≠ g3) (i : Nat) (v : Value) : RwS (w.setCell ⟨g1, i, none⟩ v) gb g0 g1 g2 g3 ts (hs.setIfInBounds i v) ns gs :=
  ⟨(heap_setCell_other _ ⟨g1, i, none⟩ _ _ (blocks_ne h.rb h.r1 (by decide))).trans h.rb, (heap_setCell_other _ ⟨g1, i, none⟩ _ _ (blocks_ne h.r0 h.r1 (by decide))).trans h.r0, heap_setCell_same _ _ _ _ _ _ h.r1, (heap_setCell_other _ ⟨g1, i, none⟩ _ _ (blocks_ne h.r2 h.r1 (by decide))).trans h.r2, (heap_setCell_other _ ⟨g1, i, none⟩ _ _ (fun e => hne e.symm)).trans h.r3⟩
theorem RwS.setN (h : RwS w gb g0 g1 g2 g3 ts hs ns gs) (i : Nat) (v : Value) : RwS (w.setCell ⟨g2, i, none⟩ v) gb g0 g1 g2 g3 ts hs (ns.setIfInBounds i v) gs :=
  ⟨(heap_setCell_other _ ⟨g2, i, none⟩ _ _ (blocks_ne h.rb h.r2 (by decide))).trans h.rb, (heap_setCell_other _ ⟨g2, i, none⟩ _ _ (blocks_ne h.r0 h.r2 (by decide))).trans h.r0, (heap_setCell_other _ ⟨g2, i, none⟩ _ _ (blocks_ne h.r1 h.r2 (by decide))).trans h.r1, heap_setCell_same _ _ _ _ _ _ h.r2, (heap_setCell_other _ ⟨g2, i, none⟩ _ _ (blocks_ne h.r3 h.r2 (by decide))).trans h.r3⟩
theorem RwS.setG (h : RwS w gb g0 g1 g2 g3 ts hs ns gs) (hne : g1 ≠ g3) (i : Nat) (v : Value) : RwS (w.setCell ⟨g3, i, none⟩ v) gb g0 g1 g2 g3 ts hs ns (gs.setIfInBounds i v) :=
  ⟨(heap_setCell_other _ ⟨g3, i, none⟩ _ _ (blocks_ne h.rb h.r3 (by decide))).trans h.rb, (heap_setCell_other _ ⟨g3, i, none⟩ _ _ (blocks_ne h.r0 h.r3 (by decide))).trans h.r0, (heap_setCell_other _ ⟨g3, i, none⟩ _ _ hne).trans h.r1, (heap_setCell_other _ ⟨g3, i, none⟩ _ _ (blocks_ne h.r2 h.r3 (by decide))).trans h.r2, heap_setCell_same _ _ _ _ _ _ h.r3⟩
theorem row_at {g i : Nat} {T : TypeId} {cur : Array Value} {v : Value} (h : w.heap[g]? = some (.cells cur T (0, 0))) (hv : cur[i]? = some v) : w.cell? ⟨g, i, none⟩ = some v ∧ w.frozen? ⟨g, i, none⟩ = false := by
  refine ⟨?_, frozen_row h _⟩
  rw [cell_of_row _ _ _ _ _ (0, 0) h]; exact hv
end

/-- what a variable is bound to, in memory -/
def VarV (B : Nat) (w : World) (v : Value) (b : Bool) : Option T.F → Prop
  | none => b = false ∧ v = .slice none 0 0
  | some f => b = true ∧ T.One f ∧ OwnR (NdF B) B w v (T.canon f)
theorem VarV.below {B : Nat} {w w' : World} {v : Value} {b : Bool} {o : Option T.F} (h : VarV B w v b o) (hb : Below w.heap.size w w') : VarV B w' v b o := by
  cases o with
  | none => exact h
  | some f => exact ⟨h.1, h.2.1, h.2.2.below (ndF_rel _) hb⟩
theorem VarV.put {B : Nat} {w : World} {v : Value} {b : Bool} {o : Option T.F} {g i : Nat} {cur : Array Value} {T : TypeId} (h : VarV B w v b o) (hg : w.heap[g]? = some (.cells cur T (0, 0))) (hT : T ≠ 3 ∧ T ≠ 41) (u : Value) : VarV B (w.setCell ⟨g, i, none⟩ u) v b o := by
  cases o with
  | none => exact h
  | some f => exact ⟨h.1, h.2.1, h.2.2.other (setCell_grown w g i u) (fun g' cur' T' fr e hc => by
      injection e with e
      subst e
      rw [hg] at hc
      injection hc with hc
      injection hc with _ hc _
      subst hc
      exact hT)⟩
theorem OwnR.put_ {B : Nat} {w : World} {v : Value} {l : List T.Nd} {g i : Nat} {cur : Array Value} {T : TypeId} (h : OwnR (NdF B) B w v l) (hg : w.heap[g]? = some (.cells cur T (0, 0))) (hT : T ≠ 3 ∧ T ≠ 41) (u : Value) : OwnR (NdF B) B (w.setCell ⟨g, i, none⟩ u) v l :=
  h.other (setCell_grown w g i u) (fun g' cur' T' fr e hc => by
    injection e with e
    subst e
    rw [hg] at hc
    injection hc with hc
    injection hc with _ hc _
    subst hc
    exact hT)

structure RBp (B : Nat) (w : World) (gb g0 g1 g2 g3 : Nat) (ts hs ns gs : Array Value) (s : R.St) : Prop where
  rows : RwS w gb g0 g1 g2 g3 ts hs ns gs
  ne : g1 ≠ g3
  ge : B ≤ gb ∧ B ≤ g0 ∧ B ≤ g1 ∧ B ≤ g2 ∧ B ≤ g3
  sz : ts.size = 4 ∧ hs.size = 4 ∧ ns.size = 2 ∧ gs.size = 2
  v : ∀ i : Nat, i < 4 → ∃ v b, ts[i]? = some v ∧ hs[i]? = some (.bool b) ∧ VarV B w v b (s.v (i : Int))
  h : ∀ i : Nat, i < 2 → ∃ n b, ns[i]? = some (.int .u32 n) ∧ gs[i]? = some (.bool b) ∧ HolAt n b (s.h (i : Int))
  hi : ∀ i : Int, 2 ≤ i → s.v i = none
/-- what is bound, in block gb -/
def RBd (B : Nat) (w : World) (gb : Nat) (s : R.St) : Prop := ∃ g0 g1 g2 g3 ts hs ns gs, RBp B w gb g0 g1 g2 g3 ts hs ns gs s
section
variable {B : Nat} {w w' : World} {gb g0 g1 g2 g3 : Nat} {ts hs ns gs : Array Value} {s : R.St}
theorem RBp.below (h : RBp B w gb g0 g1 g2 g3 ts hs ns gs s) (hb : Below w.heap.size w w') : RBp B w' gb g0 g1 g2 g3 ts hs ns gs s :=
  ⟨h.rows.below hb, h.ne, h.ge, h.sz, fun i hi => by
    obtain ⟨v, b, h1, h2, h3⟩ := h.v i hi
    exact ⟨v, b, h1, h2, h3.below hb⟩, h.h, h.hi⟩
theorem RBp.setV (h : RBp B w gb g0 g1 g2 g3 ts hs ns gs s) {i : Nat} (hi : i < 2) {v : Value} {f : T.F} (hr : RwS w' gb g0 g1 g2 g3 (ts.setIfInBounds i v) (hs.setIfInBounds i (.bool true)) ns gs) (hk : ∀ v b o, VarV B w v b o → VarV B w' v b o) (hf : T.One f) (ho : OwnR (NdF B) B w' v (T.canon f)) : RBd B w' gb (s.setV (i : Int) f) := by
  obtain ⟨z1, z2, z3, z4⟩ := h.sz
  refine ⟨g0, g1, g2, g3, _, _, ns, gs, hr, h.ne, h.ge, ⟨by simpa using z1, by simpa using z2, z3, z4⟩, fun j hj => ?_, h.h, fun j hj => by
    unfold R.St.setV
    dsimp only
    rw [if_neg (by omega)]
    exact h.hi j hj⟩
  by_cases e : j = i
  · subst e
    refine ⟨v, true, by rw [Array.getElem?_setIfInBounds, if_pos rfl, if_pos (by omega)], by rw [Array.getElem?_setIfInBounds, if_pos rfl, if_pos (by omega)], ?_⟩
    unfold R.St.setV
    dsimp only
    rw [if_pos rfl]
    exact ⟨rfl, hf, ho⟩
  · obtain ⟨v', b, h1, h2, h3⟩ := h.v j hj
    refine ⟨v', b, by rw [Array.getElem?_setIfInBounds, if_neg (fun e' => e e'.symm)]; exact h1, by rw [Array.getElem?_setIfInBounds, if_neg (fun e' => e e'.symm)]; exact h2, ?_⟩
    unfold R.St.setV
    dsimp only
    rw [if_neg (by omega)]
    exact hk _ _ _ h3
theorem RBp.setHole (h : RBp B w gb g0 g1 g2 g3 ts hs ns gs s) {i : Nat} (hi : i < 2) {n : Int} (hr : RwS w' gb g0 g1 g2 g3 ts hs (ns.setIfInBounds i (.int .u32 n)) (gs.setIfInBounds i (.bool true))) (hk : ∀ v b o, VarV B w v b o → VarV B w' v b o) : RBd B w' gb (s.setH (i : Int) n) := by
  obtain ⟨z1, z2, z3, z4⟩ := h.sz
  refine ⟨g0, g1, g2, g3, ts, hs, _, _, hr, h.ne, h.ge, ⟨z1, z2, by simpa using z3, by simpa using z4⟩, fun j hj => ?_, fun j hj => ?_, h.hi⟩
  · obtain ⟨v', b, h1, h2, h3⟩ := h.v j hj
    exact ⟨v', b, h1, h2, hk _ _ _ h3⟩
  · by_cases e : j = i
    · subst e
      refine ⟨n, true, by rw [Array.getElem?_setIfInBounds, if_pos rfl, if_pos (by omega)], by rw [Array.getElem?_setIfInBounds, if_pos rfl, if_pos (by omega)], ?_⟩
      unfold R.St.setH
      dsimp only
      rw [if_pos rfl]
      exact ⟨rfl, rfl⟩
    · obtain ⟨v', b, h1, h2, h3⟩ := h.h j hj
      refine ⟨v', b, by rw [Array.getElem?_setIfInBounds, if_neg (fun e' => e e'.symm)]; exact h1, by rw [Array.getElem?_setIfInBounds, if_neg (fun e' => e e'.symm)]; exact h2, ?_⟩
      unfold R.St.setH
      dsimp only
      rw [if_neg (by omega)]
      exact h3
end
theorem R.St.setV_same {s : R.St} {i : Int} {f : T.F} (h : s.v i = some f) : s.setV i f = s := by
  obtain ⟨v, hh⟩ := s
  unfold R.St.setV
  congr 1
  funext j
  dsimp only at h ⊢
  split
  · rename_i e; rw [e, h]
  · rfl
theorem R.St.setH_same {s : R.St} {i : Int} {f : Int} (h : s.h i = some f) : s.setH i f = s := by
  obtain ⟨v, hh⟩ := s
  unfold R.St.setH
  congr 1
  funext j
  dsimp only at h ⊢
  split
  · rename_i e; rw [e, h]
  · rfl

def BindPost (B : Nat) (W : World) (gb : Nat) (o : Option R.St) (e : Ending) (W' : World) : Prop :=
  Below B W W' ∧ ((o = none ∧ e = .returned (.bool false)) ∨ ∃ s', o = some s' ∧ e = .returned (.bool true) ∧ RBd B W' gb s')

set_option maxRecDepth 100000 in
set_option maxHeartbeats 8000000 in
theorem rbind_any {s : R.St} {B gb : Nat} {xo xw xf xi : Int} {xn c : Nat} {A : Option Addr} {t : List T.Nd} {m ct k : Nat} {At : Option Addr} {w : Int} {W : World} {tk : T.F} {y : T.Nd} (hbd : RBd B W gb s) (hx : xo = 33 ∨ xo = 34 → 0 ≤ xi ∧ xi < 2) (hxw : 0 ≤ xw ∧ xw ≤ 32) (hxi : 0 ≤ xi ∧ xi < 4294967296) (hw : Go.Proofs.YtmebpgggfppmhaaDoor.B.isWd w = true)
    (hT : StAt 5 NdR W At m t) (hot : T.Ord t) (hm : m ≤ 300) (hat : ∀ y ∈ t, y.args.length ≤ 3) (hk : k < m) (hy : t[k]? = some y) (hr : T.Rep t y.args tk) (hB : B ≤ W.heap.size) :
    Calls Tryd.prog 75 #[.pointer (some ⟨gb, 0, none⟩), .agg #[.int .i64 xo, .int .i64 xw, .int .i64 xf, .slice A xn c, .int .u32 xi], .slice At m ct, .int .i64 (k : Int), .int .i64 w] W (BindPost B W gb (R.bnd w s ⟨xo, xw, xf, xi, y.op, y.w, y.fl, y.imm, tk⟩)) := by
  obtain ⟨g0, g1, g2, g3, ts, hs, ns, gs, hp⟩ := hbd
  have hone : T.Rep t [(k : Int)] (.cons y.op y.w y.fl y.imm tk .nil) := .cons (by omega) (by rw [Int.toNat_natCast]; exact hy) hr .nil
  obtain ⟨y', b, off, Ay, cy, hy', hAt, hb, y0, y1, y2, y3, y4, _, yi0, yi1⟩ := nd_cells hT hk
  obtain rfl : y' = y := by rw [hy] at hy'; exact (Option.some.inj hy').symm
  subst hAt
  obtain ⟨W1, hW1⟩ : ∃ W1, W1 = (W.alloc (.cells #[.int .i64 xo, .int .i64 xw, .int .i64 xf, .slice A xn c, .int .u32 xi] 41)).alloc (.cells #[.int .i64 y'.op, .int .i64 y'.w, .int .i64 y'.fl, .slice Ay y'.args.length cy, .int .u32 y'.imm] 41) := ⟨_, rfl⟩
  have hb0 : Below W.heap.size W (W.alloc (.cells #[.int .i64 xo, .int .i64 xw, .int .i64 xf, .slice A xn c, .int .u32 xi] 41)) := (Below.refl _ _).alloc (Nat.le_refl _) _
  have hb1 : Below W.heap.size W W1 := by rw [hW1]; exact hb0.alloc (by simp) _
  have hrx : W1.heap[W.heap.size]? = some (.cells #[.int .i64 xo, .int .i64 xw, .int .i64 xf, .slice A xn c, .int .u32 xi] 41 (0, 0)) := by rw [hW1]; exact row_alloc (heap_alloc_new W _) _
  have hry : W1.heap[W.heap.size + 1]? = some (.cells #[.int .i64 y'.op, .int .i64 y'.w, .int .i64 y'.fl, .slice Ay y'.args.length cy, .int .u32 y'.imm] 41 (0, 0)) := by rw [hW1]; exact new_two W _ _
  have z0 := (hb0.cell (p := ⟨b, off + k * 5, none⟩) hb).trans y0
  have z1 := (hb0.cell (p := ⟨b, off + k * 5 + 1, none⟩) hb).trans y1
  have z2 := (hb0.cell (p := ⟨b, off + k * 5 + 2, none⟩) hb).trans y2
  have z3 := (hb0.cell (p := ⟨b, off + k * 5 + 3, none⟩) hb).trans y3
  have z4 := (hb0.cell (p := ⟨b, off + k * 5 + 4, none⟩) hb).trans y4
  have HB := Lib.hid hB
  have Hb1 := Lib.hid hb1
  have HW1 := Lib.hid hW1
  have HP0 := Lib.hid hp.rows
  have HXrow := Lib.hid (fun (X : World) (h : Below W1.heap.size W1 X) => (h.block _ (Array.getElem?_eq_some_iff.1 hrx).1).trans hrx)
  have HXr := Lib.hid (fun (X : World) (h : Below W1.heap.size W1 X) => nd5_all ((h.block _ (Array.getElem?_eq_some_iff.1 hrx).1).trans hrx))
  have HYr := Lib.hid (fun (X : World) (h : Below W1.heap.size W1 X) => nd5_all ((h.block _ (Array.getElem?_eq_some_iff.1 hry).1).trans hry))
  have HP1 := Lib.hid (hp.below hb1)
  have HT1 := Lib.hid (hT.below monoNd hb1)
  have Hw := Lib.hid hw
  have HSh := Lib.hid (Shared_any (ct := ct) HT1.out hot (by omega) (fun y hy => by have := hat y hy; omega) hk _ hone)
  have HOne := Lib.hid (show T.One (.cons y'.op y'.w y'.fl y'.imm tk .nil) from ⟨_, _, _, _, _, rfl⟩)
  have Hsz1 := Lib.hid (show W1.heap.size = W.heap.size + 2 from by rw [hW1]; simp)
  have HY := Lib.hid (show 0 ≤ y'.imm ∧ y'.imm < 4294967296 from ⟨yi0, yi1⟩)
  have hle := hT.le
  obtain ⟨yo, yw, yf, ya, yi⟩ := y'
  dsimp only at *
  have hi64 : wrap64 xi = xi := by unfold wrap64; omega
  obtain ⟨res, hres⟩ : ∃ res, R.bnd w s ⟨xo, xw, xf, xi, yo, yw, yf, yi, tk⟩ = res := ⟨_, rfl⟩
  have Hres := Lib.hid hres
  rw [hres]
  clear hp hone y0 y1 y2 y3 y4 yi0 yi1 hb hb0 hb1 hrx hry hT hot hat hy hy' hr hB hres hw
  by_cases h33 : xo = 33
  · subst h33
    obtain ⟨h0, h2⟩ := hx (.inl rfl)
    obtain ⟨i, rfl⟩ : ∃ i : Nat, xi = i := ⟨xi.toNat, by omega⟩
    have hi2 : i < 2 := by omega
    obtain ⟨v, bh, hti, hhi, hvv⟩ := HP1.out.v i (by omega)
    have Hti := Lib.hid hti
    have Hhi := Lib.hid hhi
    have Hvv := Lib.hid hvv
    have HXlt := Lib.hid (show W.heap.size ≠ g0 from by have := (Array.getElem?_eq_some_iff.1 HP0.out.r0).1; omega)
    clear hti hhi hvv h0 h2
    go_enter Tryd.func75, Tryd.ntmps75
    go_wp2_with fail
    rw [← HW1.out]
    clear z0 z1 z2 z3 z4
    (with_reducible refine HSh.out.mono ?_)
    rintro e w2 ⟨vp, rfl, hown, hb2⟩
    obtain ⟨Ap, cp, rfl⟩ := hown.form
    have HO2 := Lib.hid (hown.weak (B := B) (by have := HB.out; have := Hb1.out.size; omega))
    have Hb2 := Lib.hid hb2
    have HP2 := Lib.hid (HP1.out.below hb2)
    clear hown hb2 HSh
    obtain ⟨np, hnp⟩ : ∃ np, (T.canon (.cons yo yw yf yi tk .nil)).length = np := ⟨_, rfl⟩
    have Hnp := Lib.hid hnp
    rw [hnp] at HO2 ⊢
    clear hnp
    go_wp2
    obtain ⟨ov⟩ := ov_ex w2
    have o1 := ov.cell (HYr.out _ Hb2.out).2.1
    have o2 := ov.cell (HXr.out _ Hb2.out).2.2.2.2.1
    have o3 := ov.cell HP2.out.rows.cells.1
    have o4 := ov.cell HP2.out.rows.cells.2.1
    have o5 := ov.cell (row_at HP2.out.rows.r0 Hti.out).1
    have o6 := ov.cell (row_at HP2.out.rows.r1 Hhi.out).1
    by_cases hyw : yw = w
    rotate_left
    · have q : (yw != w) = true := by simpa using hyw
      have Hn := Lib.hid (show res = none from by rw [← Hres.out]; unfold R.bnd; simp [hyw])
      refine wp_region_ovq ov (by kernel_rfl) (by kernel_rfl) ?_
      repeat (go_big_quiet_step (fail))
      refine wpQuiet_nil ?_
      rintro _ ⟨u, rfl⟩
      have Hbo := Lib.hid (((Hb1.out.trans ((Hb2.out.trans ((ov.below u).mono Hb2.out.size)).mono Hb1.out.size)).mono HB.out))
      clear o1 o2 o3 o4 o5 o6
      generalize ov.f u = w3 at *
      clear ov
      go_wp2
      go_ret
      exact ⟨Hbo.out, .inl ⟨Hn.out, rfl⟩⟩
    · have q : (yw != w) = false := by simpa using hyw
      have Hrs := Lib.hid (show res = R.bindV s (i : Int) (.cons yo yw yf yi tk .nil) from by rw [← Hres.out]; unfold R.bnd; simp [hyw])
      clear hyw
      cases hsv : s.v (i : Int) with
      | none =>
        have hv := Hvv.out
        rw [hsv] at hv
        obtain ⟨rfl, rfl⟩ := hv
        have Hres2 := Lib.hid (show res = some (s.setV (i : Int) (.cons yo yw yf yi tk .nil)) from by rw [Hrs.out]; unfold R.bindV; rw [hsv])
        clear hsv
        refine wp_region_ovq ov (by kernel_rfl) (by kernel_rfl) ?_
        repeat (go_big_quiet_step (fail))
        refine wpQuiet_nil ?_
        rintro _ ⟨u, rfl⟩
        have Hb3 := Lib.hid (Hb2.out.trans ((ov.below u).mono Hb2.out.size))
        have HP3 := Lib.hid (HP2.out.below (ov.below u))
        have HO3 := Lib.hid (HO2.out.below (ndF_rel _) (ov.below u))
        clear o1 o2 o3 o4 o5 o6
        generalize ov.f u = w3 at *
        clear ov
        go_wp2
        have Hrw3 := Lib.hid HP3.out.rows
        obtain ⟨ov3⟩ := ov_ex w3
        have n0 := ov3.cell Hrw3.out.cells.1
        have n1 := ov3.cell (HXr.out _ Hb3.out).2.2.2.2.1
        refine wp_region_ov ov3 (by kernel_rfl) (by kernel_rfl) ?_
        dsimp only [headOf, lastOf]
        repeat (go_big_quiet_step (fail))
        refine wpQuiet_nil ?_
        clear n0 n1
        rintro _ ⟨u3, rfl⟩ K hK
        have Hb4 := Lib.hid (Hb3.out.trans ((ov3.below u3).mono Hb3.out.size))
        have HP4 := Lib.hid (HP3.out.below (ov3.below u3))
        have HO4 := Lib.hid (HO3.out.below (ndF_rel _) (ov3.below u3))
        generalize ov3.f u3 = w4 at *
        obtain ⟨c4, f4⟩ := row_at HP4.out.rows.r0 Hti.out
        go_wp2
        refine hK _ _ ?_
        clear hK K ov3 c4 f4
        have HR5 := Lib.hid (HP4.out.rows.setT i (.slice Ap np cp))
        have Hb5 := Lib.hid (show Below W.heap.size W (w4.setCell ⟨g0, i, none⟩ (.slice Ap np cp)) ∨ True from .inr trivial)
        have HbB5 := Lib.hid (((Hb1.out.trans (Hb4.out.mono Hb1.out.size)).mono HB.out).setCell (p := ⟨g0, i, none⟩) HP4.out.ge.2.1 (.slice Ap np cp))
        have HO5 := Lib.hid (HO4.out.put_ (i := i) HP4.out.rows.r0 ⟨by decide, by decide⟩ (.slice Ap np cp))
        have HX5 := Lib.hid (((heap_setCell_other w4 ⟨g0, i, none⟩ W.heap.size (.slice Ap np cp) (by have := HXlt.out; omega)).trans (HXrow.out _ Hb4.out)))
        have HK5 := Lib.hid (show ∀ v b o, VarV B w4 v b o → VarV B (w4.setCell ⟨g0, i, none⟩ (.slice Ap np cp)) v b o from fun v b o h => h.put HP4.out.rows.r0 ⟨by decide, by decide⟩ _)
        go_upto_region 8 with (fail)
        generalize (w4.setCell ⟨g0, i, none⟩ (.slice Ap np cp)) = w5 at *
        obtain ⟨ov5⟩ := ov_ex w5
        have n0 := ov5.cell HR5.out.cells.2.1
        have n1 := ov5.cell (nd5_all HX5.out).2.2.2.2.1
        refine wp_region_ov ov5 (by kernel_rfl) (by kernel_rfl) ?_
        dsimp only [headOf, lastOf]
        repeat (go_big_quiet_step (fail))
        refine wpQuiet_nil ?_
        clear n0 n1
        rintro _ ⟨u5, rfl⟩ K hK
        have HR6 := Lib.hid (HR5.out.below (ov5.below u5))
        have HbB6 := Lib.hid (HbB5.out.trans ((ov5.below u5).mono (Nat.le_trans HB.out HbB5.out.size)))
        have HO6 := Lib.hid (HO5.out.below (ndF_rel _) (ov5.below u5))
        have HK6 := Lib.hid (show ∀ v b o, VarV B w4 v b o → VarV B (ov5.f u5) v b o from fun v b o h => (HK5.out v b o h).below (ov5.below u5))
        generalize ov5.f u5 = w6 at *
        obtain ⟨c6, f6⟩ := row_at HR6.out.r1 Hhi.out
        go_wp2
        refine hK _ _ ?_
        clear hK K ov5 c6 f6
        go_wp2
        go_ret
        have hfin := HP4.out.setV hi2 (HR6.out.setH HP4.out.ne i (.bool true)) (fun v b o h => (HK6.out v b o h).put HR6.out.r1 ⟨by decide, by decide⟩ _) HOne.out (HO6.out.put_ HR6.out.r1 ⟨by decide, by decide⟩ _)
        exact ⟨HbB6.out.setCell (p := ⟨g1, i, none⟩) HP4.out.ge.2.2.1 _, .inr ⟨_, Hres2.out, rfl, hfin⟩⟩
      | some g =>
        have hv := Hvv.out
        rw [hsv] at hv
        obtain ⟨rfl, hog, hov⟩ := hv
        obtain ⟨Ag, cg, rfl⟩ := hov.form
        have Hov := Lib.hid hov
        have Hsm := Lib.hid (show ∀ u, Calls Tryd.prog 15 #[.slice Ap np cp, .slice Ag (T.canon g).length cg] (ov.f u) fun e w' => e = .returned (.bool (decide (T.canon (.cons yo yw yf yi tk .nil) = T.canon g))) ∧ Below (ov.f u).heap.size (ov.f u) w' from fun u => by
          have h1 := (HO2.out.below (ndF_rel _) (ov.below u)).stAt (ndF_rel _) Hnp.out
          have h2 := ((Hov.out.below (ndF_rel _) Hb2.out).below (ndF_rel _) (ov.below u)).stAt (ndF_rel _) rfl
          exact SameNodes_any h1 h2)
        have Hsm2 := Lib.hid (fun u => calls_over (Hsm.out u))
        by_cases hfg : g = .cons yo yw yf yi tk .nil
        · have hd : decide (T.canon (.cons yo yw yf yi tk .nil) = T.canon g) = true := by rw [hfg]; simp
          have Hres2 := Lib.hid (show res = some (s.setV (i : Int) (.cons yo yw yf yi tk .nil)) from by rw [Hrs.out]; unfold R.bindV; rw [hsv]; dsimp only; rw [if_pos hfg, R.St.setV_same (by rw [hsv, hfg])])
          rw [hd] at Hsm2
          clear hsv hfg hd hog hov
          refine wp_region_ovq ov (by kernel_rfl) (by kernel_rfl) ?_
          repeat (go_big_quiet_step ((go_at_call 15; with_reducible exact Hsm2.out _)))
          refine wpQuiet_nil ?_
          rintro _ ⟨u, rfl⟩
          have Hb3 := Lib.hid (Hb2.out.trans ((ov.below u).mono Hb2.out.size))
          have HP3 := Lib.hid (HP2.out.below (ov.below u))
          have HO3 := Lib.hid (HO2.out.below (ndF_rel _) (ov.below u))
          clear o1 o2 o3 o4 o5 o6 Hsm Hsm2
          generalize ov.f u = w3 at *
          clear ov
          go_wp2
          have Hrw3 := Lib.hid HP3.out.rows
          obtain ⟨ov3⟩ := ov_ex w3
          have n0 := ov3.cell Hrw3.out.cells.1
          have n1 := ov3.cell (HXr.out _ Hb3.out).2.2.2.2.1
          refine wp_region_ov ov3 (by kernel_rfl) (by kernel_rfl) ?_
          dsimp only [headOf, lastOf]
          repeat (go_big_quiet_step (fail))
          refine wpQuiet_nil ?_
          clear n0 n1
          rintro _ ⟨u3, rfl⟩ K hK
          have Hb4 := Lib.hid (Hb3.out.trans ((ov3.below u3).mono Hb3.out.size))
          have HP4 := Lib.hid (HP3.out.below (ov3.below u3))
          have HO4 := Lib.hid (HO3.out.below (ndF_rel _) (ov3.below u3))
          generalize ov3.f u3 = w4 at *
          obtain ⟨c4, f4⟩ := row_at HP4.out.rows.r0 Hti.out
          go_wp2
          refine hK _ _ ?_
          clear hK K ov3 c4 f4
          have HR5 := Lib.hid (HP4.out.rows.setT i (.slice Ap np cp))
          have Hb5 := Lib.hid (show Below W.heap.size W (w4.setCell ⟨g0, i, none⟩ (.slice Ap np cp)) ∨ True from .inr trivial)
          have HbB5 := Lib.hid (((Hb1.out.trans (Hb4.out.mono Hb1.out.size)).mono HB.out).setCell (p := ⟨g0, i, none⟩) HP4.out.ge.2.1 (.slice Ap np cp))
          have HO5 := Lib.hid (HO4.out.put_ (i := i) HP4.out.rows.r0 ⟨by decide, by decide⟩ (.slice Ap np cp))
          have HX5 := Lib.hid (((heap_setCell_other w4 ⟨g0, i, none⟩ W.heap.size (.slice Ap np cp) (by have := HXlt.out; omega)).trans (HXrow.out _ Hb4.out)))
          have HK5 := Lib.hid (show ∀ v b o, VarV B w4 v b o → VarV B (w4.setCell ⟨g0, i, none⟩ (.slice Ap np cp)) v b o from fun v b o h => h.put HP4.out.rows.r0 ⟨by decide, by decide⟩ _)
          go_upto_region 8 with (fail)
          generalize (w4.setCell ⟨g0, i, none⟩ (.slice Ap np cp)) = w5 at *
          obtain ⟨ov5⟩ := ov_ex w5
          have n0 := ov5.cell HR5.out.cells.2.1
          have n1 := ov5.cell (nd5_all HX5.out).2.2.2.2.1
          refine wp_region_ov ov5 (by kernel_rfl) (by kernel_rfl) ?_
          dsimp only [headOf, lastOf]
          repeat (go_big_quiet_step (fail))
          refine wpQuiet_nil ?_
          clear n0 n1
          rintro _ ⟨u5, rfl⟩ K hK
          have HR6 := Lib.hid (HR5.out.below (ov5.below u5))
          have HbB6 := Lib.hid (HbB5.out.trans ((ov5.below u5).mono (Nat.le_trans HB.out HbB5.out.size)))
          have HO6 := Lib.hid (HO5.out.below (ndF_rel _) (ov5.below u5))
          have HK6 := Lib.hid (show ∀ v b o, VarV B w4 v b o → VarV B (ov5.f u5) v b o from fun v b o h => (HK5.out v b o h).below (ov5.below u5))
          generalize ov5.f u5 = w6 at *
          obtain ⟨c6, f6⟩ := row_at HR6.out.r1 Hhi.out
          go_wp2
          refine hK _ _ ?_
          clear hK K ov5 c6 f6
          go_wp2
          go_ret
          have hfin := HP4.out.setV hi2 (HR6.out.setH HP4.out.ne i (.bool true)) (fun v b o h => (HK6.out v b o h).put HR6.out.r1 ⟨by decide, by decide⟩ _) HOne.out (HO6.out.put_ HR6.out.r1 ⟨by decide, by decide⟩ _)
          exact ⟨HbB6.out.setCell (p := ⟨g1, i, none⟩) HP4.out.ge.2.2.1 _, .inr ⟨_, Hres2.out, rfl, hfin⟩⟩
        · have hd : decide (T.canon (.cons yo yw yf yi tk .nil) = T.canon g) = false := by
            refine decide_eq_false fun e => hfg ?_
            obtain ⟨a1, a2, a3, a4, a5, rfl⟩ := hog
            exact (T.canon_inj e).symm
          have Hn := Lib.hid (show res = none from by rw [Hrs.out]; unfold R.bindV; rw [hsv]; dsimp only; rw [if_neg hfg])
          rw [hd] at Hsm2
          clear hsv hfg hd hog hov
          refine wp_region_ovq ov (by kernel_rfl) (by kernel_rfl) ?_
          repeat (go_big_quiet_step ((go_at_call 15; with_reducible exact Hsm2.out _)))
          refine wpQuiet_nil ?_
          rintro _ ⟨u, rfl⟩
          have Hbo := Lib.hid (((Hb1.out.trans ((Hb2.out.trans ((ov.below u).mono Hb2.out.size)).mono Hb1.out.size)).mono HB.out))
          clear o1 o2 o3 o4 o5 o6 Hsm Hsm2
          generalize ov.f u = w3 at *
          clear ov
          go_wp2
          go_ret
          exact ⟨Hbo.out, .inl ⟨Hn.out, rfl⟩⟩
  by_cases h34 : xo = 34
  · subst h34
    clear h33
    obtain ⟨h0, h2⟩ := hx (.inr rfl)
    obtain ⟨i, rfl⟩ : ∃ i : Nat, xi = i := ⟨xi.toNat, by omega⟩
    have hi2 : i < 2 := by omega
    obtain ⟨nn, bh, hti, hhi, hvv⟩ := HP1.out.h i hi2
    have Hti := Lib.hid hti
    have Hhi := Lib.hid hhi
    have Hvv := Lib.hid hvv
    have HXlt := Lib.hid (show W.heap.size ≠ g2 from by have := (Array.getElem?_eq_some_iff.1 HP0.out.r2).1; omega)
    clear hti hhi hvv h0 h2 HSh
    go_enter Tryd.func75, Tryd.ntmps75
    go_upto_region 11 with (fail)
    rw [← HW1.out]
    clear z0 z1 z2 z3 z4
    have Hb2 := Lib.hid (Below.refl W1.heap.size W1)
    obtain ⟨ov⟩ := ov_ex W1
    have o1 := ov.cell (HYr.out _ Hb2.out).2.1
    have o7 := ov.cell (HYr.out _ Hb2.out).2.2.2.2.1
    have o2 := ov.cell (HXr.out _ Hb2.out).2.2.2.2.1
    have o3 := ov.cell HP1.out.rows.cells.2.2.1
    have o4 := ov.cell HP1.out.rows.cells.2.2.2
    have o5 := ov.cell (row_at HP1.out.rows.r2 Hti.out).1
    have o6 := ov.cell (row_at HP1.out.rows.r3 Hhi.out).1
    by_cases hyw : yw = w
    rotate_left
    · have q : (yw != w) = true := by simpa using hyw
      have Hn := Lib.hid (show res = none from by rw [← Hres.out]; unfold R.bnd; simp [hyw])
      refine wp_region_ovq ov (by kernel_rfl) (by kernel_rfl) ?_
      repeat (go_big_quiet_step (fail))
      refine wpQuiet_nil ?_
      rintro _ ⟨u, rfl⟩
      have Hbo := Lib.hid (((Hb1.out.trans ((Hb2.out.trans ((ov.below u).mono Hb2.out.size)).mono Hb1.out.size)).mono HB.out))
      clear o1 o2 o3 o4 o5 o6 o7
      generalize ov.f u = w3 at *
      clear ov
      go_wp2
      go_ret
      exact ⟨Hbo.out, .inl ⟨Hn.out, rfl⟩⟩
    · have q : (yw != w) = false := by simpa using hyw
      have Hrs := Lib.hid (show res = R.bindH s (i : Int) yi from by rw [← Hres.out]; unfold R.bnd; simp [hyw])
      clear hyw
      cases hsv : s.h (i : Int) with
      | none =>
        have hv := Hvv.out
        rw [hsv] at hv
        obtain ⟨rfl, rfl⟩ := hv
        have Hres2 := Lib.hid (show res = some (s.setH (i : Int) yi) from by rw [Hrs.out]; unfold R.bindH; rw [hsv])
        clear hsv
        refine wp_region_ovq ov (by kernel_rfl) (by kernel_rfl) ?_
        repeat (go_big_quiet_step (fail))
        refine wpQuiet_nil ?_
        rintro _ ⟨u, rfl⟩
        have Hb3 := Lib.hid (Hb2.out.trans ((ov.below u).mono Hb2.out.size))
        have HP3 := Lib.hid (HP1.out.below (ov.below u))
        clear o1 o2 o3 o4 o5 o6 o7
        generalize ov.f u = w3 at *
        clear ov
        go_wp2
        obtain ⟨ov3⟩ := ov_ex w3
        have n0 := ov3.cell HP3.out.rows.cells.2.2.1
        have n1 := ov3.cell (HXr.out _ Hb3.out).2.2.2.2.1
        have n2 := ov3.cell (HYr.out _ Hb3.out).2.2.2.2.1
        refine wp_region_ov ov3 (by kernel_rfl) (by kernel_rfl) ?_
        dsimp only [headOf, lastOf]
        repeat (go_big_quiet_step (fail))
        refine wpQuiet_nil ?_
        clear n0 n1 n2
        rintro _ ⟨u3, rfl⟩ K hK
        have Hb4 := Lib.hid (Hb3.out.trans ((ov3.below u3).mono Hb3.out.size))
        have HP4 := Lib.hid (HP3.out.below (ov3.below u3))
        generalize ov3.f u3 = w4 at *
        obtain ⟨c4, f4⟩ := row_at HP4.out.rows.r2 Hti.out
        go_wp2
        refine hK _ _ ?_
        clear hK K ov3 c4 f4
        have HR5 := Lib.hid (HP4.out.rows.setN i (.int .u32 yi))
        have HbB5 := Lib.hid (((Hb1.out.trans (Hb4.out.mono Hb1.out.size)).mono HB.out).setCell (p := ⟨g2, i, none⟩) HP4.out.ge.2.2.2.1 (.int .u32 yi))
        have HX5 := Lib.hid (((heap_setCell_other w4 ⟨g2, i, none⟩ W.heap.size (.int .u32 yi) (by have := HXlt.out; omega)).trans (HXrow.out _ Hb4.out)))
        have HK5 := Lib.hid (show ∀ v b o, VarV B w4 v b o → VarV B (w4.setCell ⟨g2, i, none⟩ (.int .u32 yi)) v b o from fun v b o h => h.put HP4.out.rows.r2 ⟨by decide, by decide⟩ _)
        go_upto_region 14 with (fail)
        generalize (w4.setCell ⟨g2, i, none⟩ (.int .u32 yi)) = w5 at *
        obtain ⟨ov5⟩ := ov_ex w5
        have n0 := ov5.cell HR5.out.cells.2.2.2
        have n1 := ov5.cell (nd5_all HX5.out).2.2.2.2.1
        refine wp_region_ov ov5 (by kernel_rfl) (by kernel_rfl) ?_
        dsimp only [headOf, lastOf]
        repeat (go_big_quiet_step (fail))
        refine wpQuiet_nil ?_
        clear n0 n1
        rintro _ ⟨u5, rfl⟩ K hK
        have HR6 := Lib.hid (HR5.out.below (ov5.below u5))
        have HbB6 := Lib.hid (HbB5.out.trans ((ov5.below u5).mono (Nat.le_trans HB.out HbB5.out.size)))
        have HK6 := Lib.hid (show ∀ v b o, VarV B w4 v b o → VarV B (ov5.f u5) v b o from fun v b o h => (HK5.out v b o h).below (ov5.below u5))
        generalize ov5.f u5 = w6 at *
        obtain ⟨c6, f6⟩ := row_at HR6.out.r3 Hhi.out
        go_wp2
        refine hK _ _ ?_
        clear hK K ov5 c6 f6
        go_wp2
        go_ret
        have hfin := HP4.out.setHole hi2 (HR6.out.setG HP4.out.ne i (.bool true)) (fun v b o h => (HK6.out v b o h).put HR6.out.r3 ⟨by decide, by decide⟩ _)
        exact ⟨HbB6.out.setCell (p := ⟨g3, i, none⟩) HP4.out.ge.2.2.2.2 _, .inr ⟨_, Hres2.out, rfl, hfin⟩⟩
      | some g =>
        have hv := Hvv.out
        rw [hsv] at hv
        obtain ⟨rfl, rfl⟩ := hv
        by_cases hfg : nn = yi
        · have qn : (nn != yi) = false := by simpa using hfg
          have Hres2 := Lib.hid (show res = some (s.setH (i : Int) yi) from by rw [Hrs.out]; unfold R.bindH; rw [hsv]; dsimp only; rw [if_pos hfg, R.St.setH_same (by rw [hsv, hfg])])
          clear hsv hfg
          refine wp_region_ovq ov (by kernel_rfl) (by kernel_rfl) ?_
          repeat (go_big_quiet_step (fail))
          refine wpQuiet_nil ?_
          rintro _ ⟨u, rfl⟩
          have Hb3 := Lib.hid (Hb2.out.trans ((ov.below u).mono Hb2.out.size))
          have HP3 := Lib.hid (HP1.out.below (ov.below u))
          clear o1 o2 o3 o4 o5 o6 o7
          generalize ov.f u = w3 at *
          clear ov
          go_wp2
          obtain ⟨ov3⟩ := ov_ex w3
          have n0 := ov3.cell HP3.out.rows.cells.2.2.1
          have n1 := ov3.cell (HXr.out _ Hb3.out).2.2.2.2.1
          have n2 := ov3.cell (HYr.out _ Hb3.out).2.2.2.2.1
          refine wp_region_ov ov3 (by kernel_rfl) (by kernel_rfl) ?_
          dsimp only [headOf, lastOf]
          repeat (go_big_quiet_step (fail))
          refine wpQuiet_nil ?_
          clear n0 n1 n2
          rintro _ ⟨u3, rfl⟩ K hK
          have Hb4 := Lib.hid (Hb3.out.trans ((ov3.below u3).mono Hb3.out.size))
          have HP4 := Lib.hid (HP3.out.below (ov3.below u3))
          generalize ov3.f u3 = w4 at *
          obtain ⟨c4, f4⟩ := row_at HP4.out.rows.r2 Hti.out
          go_wp2
          refine hK _ _ ?_
          clear hK K ov3 c4 f4
          have HR5 := Lib.hid (HP4.out.rows.setN i (.int .u32 yi))
          have HbB5 := Lib.hid (((Hb1.out.trans (Hb4.out.mono Hb1.out.size)).mono HB.out).setCell (p := ⟨g2, i, none⟩) HP4.out.ge.2.2.2.1 (.int .u32 yi))
          have HX5 := Lib.hid (((heap_setCell_other w4 ⟨g2, i, none⟩ W.heap.size (.int .u32 yi) (by have := HXlt.out; omega)).trans (HXrow.out _ Hb4.out)))
          have HK5 := Lib.hid (show ∀ v b o, VarV B w4 v b o → VarV B (w4.setCell ⟨g2, i, none⟩ (.int .u32 yi)) v b o from fun v b o h => h.put HP4.out.rows.r2 ⟨by decide, by decide⟩ _)
          go_upto_region 14 with (fail)
          generalize (w4.setCell ⟨g2, i, none⟩ (.int .u32 yi)) = w5 at *
          obtain ⟨ov5⟩ := ov_ex w5
          have n0 := ov5.cell HR5.out.cells.2.2.2
          have n1 := ov5.cell (nd5_all HX5.out).2.2.2.2.1
          refine wp_region_ov ov5 (by kernel_rfl) (by kernel_rfl) ?_
          dsimp only [headOf, lastOf]
          repeat (go_big_quiet_step (fail))
          refine wpQuiet_nil ?_
          clear n0 n1
          rintro _ ⟨u5, rfl⟩ K hK
          have HR6 := Lib.hid (HR5.out.below (ov5.below u5))
          have HbB6 := Lib.hid (HbB5.out.trans ((ov5.below u5).mono (Nat.le_trans HB.out HbB5.out.size)))
          have HK6 := Lib.hid (show ∀ v b o, VarV B w4 v b o → VarV B (ov5.f u5) v b o from fun v b o h => (HK5.out v b o h).below (ov5.below u5))
          generalize ov5.f u5 = w6 at *
          obtain ⟨c6, f6⟩ := row_at HR6.out.r3 Hhi.out
          go_wp2
          refine hK _ _ ?_
          clear hK K ov5 c6 f6
          go_wp2
          go_ret
          have hfin := HP4.out.setHole hi2 (HR6.out.setG HP4.out.ne i (.bool true)) (fun v b o h => (HK6.out v b o h).put HR6.out.r3 ⟨by decide, by decide⟩ _)
          exact ⟨HbB6.out.setCell (p := ⟨g3, i, none⟩) HP4.out.ge.2.2.2.2 _, .inr ⟨_, Hres2.out, rfl, hfin⟩⟩
        · have qn : (nn != yi) = true := by simpa using hfg
          have Hn := Lib.hid (show res = none from by rw [Hrs.out]; unfold R.bindH; rw [hsv]; dsimp only; rw [if_neg hfg])
          clear hsv hfg
          refine wp_region_ovq ov (by kernel_rfl) (by kernel_rfl) ?_
          repeat (go_big_quiet_step (fail))
          refine wpQuiet_nil ?_
          rintro _ ⟨u, rfl⟩
          have Hbo := Lib.hid (((Hb1.out.trans ((Hb2.out.trans ((ov.below u).mono Hb2.out.size)).mono Hb1.out.size)).mono HB.out))
          clear o1 o2 o3 o4 o5 o6 o7
          generalize ov.f u = w3 at *
          clear ov
          go_wp2
          go_ret
          exact ⟨Hbo.out, .inl ⟨Hn.out, rfl⟩⟩
  have q33 : (xo == 33) = false := by simpa using h33
  have q34 : (xo == 34) = false := by simpa using h34
  obtain ⟨w', hw'⟩ : ∃ w', (if xw = 0 then w else xw) = w' := ⟨_, rfl⟩
  have hwd : 1 ≤ w' ∧ w' ≤ 32 := by
    have := Go.Proofs.YtmebpgggfppmhaaDoor.B.isWd_iff.1 Hw.out
    rw [← hw']
    split <;> omega
  have Hrs := Lib.hid (show res = if yw = w' ∧ yi = R.immAt xo w' xi ∧ yf = xf then some s else none from by
    rw [← Hres.out]
    unfold R.bnd
    rw [if_neg h33, if_neg h34]
    dsimp only
    rw [hw'])
  have HOf := Lib.hid (fun X => rOf_any w' xi X (Go.Proofs.YtmebpgggfppmhaaDoor.B.isWd_iff.2 hwd) (by omega) (by omega))
  obtain ⟨im, him⟩ : ∃ im, R.immAt xo w' xi = im := ⟨_, rfl⟩
  rw [him] at Hrs
  have Hb2 := Lib.hid (Below.refl W1.heap.size W1)
  have Him := Lib.hid him
  have Hw' := Lib.hid hw'
  clear HSh him hw'
  go_enter Tryd.func75, Tryd.ntmps75
  go_upto_region 16 with (fail)
  rw [← HW1.out]
  clear z0 z1 z2 z3 z4
  obtain ⟨ov⟩ := ov_ex W1
  have o1 := ov.cell (HXr.out _ Hb2.out).2.1
  have o2 := ov.cell (HXr.out _ Hb2.out).2.2.2.2.1
  refine wp_region_ovq ov (by kernel_rfl) (by kernel_rfl) ?_
  repeat (go_big_quiet_step (fail))
  refine wpQuiet_nil ?_
  rintro _ ⟨u, rfl⟩
  have Hb3 := Lib.hid (ov.below u)
  clear o1 o2
  generalize ov.f u = w3 at *
  clear ov
  obtain ⟨x0, x1, x2, x3, x4, _⟩ := HXr.out _ Hb3.out
  obtain ⟨y0, y1, y2, y3, y4, _⟩ := HYr.out _ Hb3.out
  have HbF := Lib.hid ((Hb1.out.trans (Hb3.out.mono Hb1.out.size)).mono HB.out)
  have HPF := Lib.hid (HP1.out.below Hb3.out)
  by_cases hxw0 : xw = 0
  · have qw : (xw == 0) = true := by simpa using hxw0
    have e9 : w' = w := by rw [← Hw'.out, if_pos hxw0]
    subst e9
    clear hxw0 Hw'
    by_cases hx0 : xo = 0
    · have q0 : (xo == 0) = true := by simpa using hx0
      have e8 : xi % Go.Proofs.YtmebpgggfppmhaaDoor.B.pw w' = im := by rw [← Him.out]; unfold R.immAt; rw [if_pos hx0]
      simp only [e8] at HOf
      clear hx0 Him e8
      by_cases e1 : yw = w'
      · have q1 : (yw == w') = true := by simpa using e1
        by_cases e2 : yi = im
        · have q2 : (yi == im) = true := by simpa using e2
          by_cases e3 : yf = xf
          · have q3 : (yf == xf) = true := by simpa using e3
            have Hn := Lib.hid (show res = some s from by rw [Hrs.out, if_pos ⟨e1, e2, e3⟩])
            clear e1 e2 e3
            go_wp2_with fail
            (with_reducible refine (HOf.out _).mono ?_)
            rintro e w9 ⟨rfl, rfl⟩
            go_wp2
            go_ret
            exact ⟨HbF.out, .inr ⟨s, Hn.out, rfl, _, _, _, _, _, _, _, _, HPF.out⟩⟩
          · have q3 : (yf == xf) = false := by simpa using e3
            have Hn := Lib.hid (show res = none from by rw [Hrs.out, if_neg (fun h => e3 h.2.2)])
            clear e1 e2 e3
            go_wp2_with fail
            (with_reducible refine (HOf.out _).mono ?_)
            rintro e w9 ⟨rfl, rfl⟩
            go_wp2
            go_ret
            exact ⟨HbF.out, .inl ⟨Hn.out, rfl⟩⟩
        · have q2 : (yi == im) = false := by simpa using e2
          have Hn := Lib.hid (show res = none from by rw [Hrs.out, if_neg (fun h => e2 h.2.1)])
          clear e1 e2
          go_wp2_with fail
          (with_reducible refine (HOf.out _).mono ?_)
          rintro e w9 ⟨rfl, rfl⟩
          go_wp2
          go_ret
          exact ⟨HbF.out, .inl ⟨Hn.out, rfl⟩⟩
      · have q1 : (yw == w') = false := by simpa using e1
        have Hn := Lib.hid (show res = none from by rw [Hrs.out, if_neg (fun h => e1 h.1)])
        clear e1
        go_wp2_with fail
        (with_reducible refine (HOf.out _).mono ?_)
        rintro e w9 ⟨rfl, rfl⟩
        go_wp2
        go_ret
        exact ⟨HbF.out, .inl ⟨Hn.out, rfl⟩⟩
    · have q0 : (xo == 0) = false := by simpa using hx0
      have e8 : im = xi := by rw [← Him.out]; unfold R.immAt; rw [if_neg hx0]
      subst e8
      clear hx0 Him
      by_cases e1 : yw = w'
      · have q1 : (yw == w') = true := by simpa using e1
        by_cases e2 : yi = im
        · have q2 : (yi == im) = true := by simpa using e2
          by_cases e3 : yf = xf
          · have q3 : (yf == xf) = true := by simpa using e3
            have Hn := Lib.hid (show res = some s from by rw [Hrs.out, if_pos ⟨e1, e2, e3⟩])
            clear e1 e2 e3
            go_wp2
            go_ret
            exact ⟨HbF.out, .inr ⟨s, Hn.out, rfl, _, _, _, _, _, _, _, _, HPF.out⟩⟩
          · have q3 : (yf == xf) = false := by simpa using e3
            have Hn := Lib.hid (show res = none from by rw [Hrs.out, if_neg (fun h => e3 h.2.2)])
            clear e1 e2 e3
            go_wp2
            go_ret
            exact ⟨HbF.out, .inl ⟨Hn.out, rfl⟩⟩
        · have q2 : (yi == im) = false := by simpa using e2
          have Hn := Lib.hid (show res = none from by rw [Hrs.out, if_neg (fun h => e2 h.2.1)])
          clear e1 e2
          go_wp2
          go_ret
          exact ⟨HbF.out, .inl ⟨Hn.out, rfl⟩⟩
      · have q1 : (yw == w') = false := by simpa using e1
        have Hn := Lib.hid (show res = none from by rw [Hrs.out, if_neg (fun h => e1 h.1)])
        clear e1
        go_wp2
        go_ret
        exact ⟨HbF.out, .inl ⟨Hn.out, rfl⟩⟩
  · have qw : (xw == 0) = false := by simpa using hxw0
    have e9 : w' = xw := by rw [← Hw'.out, if_neg hxw0]
    subst e9
    clear hxw0 Hw'
    by_cases hx0 : xo = 0
    · have q0 : (xo == 0) = true := by simpa using hx0
      have e8 : xi % Go.Proofs.YtmebpgggfppmhaaDoor.B.pw w' = im := by rw [← Him.out]; unfold R.immAt; rw [if_pos hx0]
      simp only [e8] at HOf
      clear hx0 Him e8
      by_cases e1 : yw = w'
      · have q1 : (yw == w') = true := by simpa using e1
        by_cases e2 : yi = im
        · have q2 : (yi == im) = true := by simpa using e2
          by_cases e3 : yf = xf
          · have q3 : (yf == xf) = true := by simpa using e3
            have Hn := Lib.hid (show res = some s from by rw [Hrs.out, if_pos ⟨e1, e2, e3⟩])
            clear e1 e2 e3
            go_wp2_with fail
            (with_reducible refine (HOf.out _).mono ?_)
            rintro e w9 ⟨rfl, rfl⟩
            go_wp2
            go_ret
            exact ⟨HbF.out, .inr ⟨s, Hn.out, rfl, _, _, _, _, _, _, _, _, HPF.out⟩⟩
          · have q3 : (yf == xf) = false := by simpa using e3
            have Hn := Lib.hid (show res = none from by rw [Hrs.out, if_neg (fun h => e3 h.2.2)])
            clear e1 e2 e3
            go_wp2_with fail
            (with_reducible refine (HOf.out _).mono ?_)
            rintro e w9 ⟨rfl, rfl⟩
            go_wp2
            go_ret
            exact ⟨HbF.out, .inl ⟨Hn.out, rfl⟩⟩
        · have q2 : (yi == im) = false := by simpa using e2
          have Hn := Lib.hid (show res = none from by rw [Hrs.out, if_neg (fun h => e2 h.2.1)])
          clear e1 e2
          go_wp2_with fail
          (with_reducible refine (HOf.out _).mono ?_)
          rintro e w9 ⟨rfl, rfl⟩
          go_wp2
          go_ret
          exact ⟨HbF.out, .inl ⟨Hn.out, rfl⟩⟩
      · have q1 : (yw == w') = false := by simpa using e1
        have Hn := Lib.hid (show res = none from by rw [Hrs.out, if_neg (fun h => e1 h.1)])
        clear e1
        go_wp2_with fail
        (with_reducible refine (HOf.out _).mono ?_)
        rintro e w9 ⟨rfl, rfl⟩
        go_wp2
        go_ret
        exact ⟨HbF.out, .inl ⟨Hn.out, rfl⟩⟩
    · have q0 : (xo == 0) = false := by simpa using hx0
      have e8 : im = xi := by rw [← Him.out]; unfold R.immAt; rw [if_neg hx0]
      subst e8
      clear hx0 Him
      by_cases e1 : yw = w'
      · have q1 : (yw == w') = true := by simpa using e1
        by_cases e2 : yi = im
        · have q2 : (yi == im) = true := by simpa using e2
          by_cases e3 : yf = xf
          · have q3 : (yf == xf) = true := by simpa using e3
            have Hn := Lib.hid (show res = some s from by rw [Hrs.out, if_pos ⟨e1, e2, e3⟩])
            clear e1 e2 e3
            go_wp2
            go_ret
            exact ⟨HbF.out, .inr ⟨s, Hn.out, rfl, _, _, _, _, _, _, _, _, HPF.out⟩⟩
          · have q3 : (yf == xf) = false := by simpa using e3
            have Hn := Lib.hid (show res = none from by rw [Hrs.out, if_neg (fun h => e3 h.2.2)])
            clear e1 e2 e3
            go_wp2
            go_ret
            exact ⟨HbF.out, .inl ⟨Hn.out, rfl⟩⟩
        · have q2 : (yi == im) = false := by simpa using e2
          have Hn := Lib.hid (show res = none from by rw [Hrs.out, if_neg (fun h => e2 h.2.1)])
          clear e1 e2
          go_wp2
          go_ret
          exact ⟨HbF.out, .inl ⟨Hn.out, rfl⟩⟩
      · have q1 : (yw == w') = false := by simpa using e1
        have Hn := Lib.hid (show res = none from by rw [Hrs.out, if_neg (fun h => e1 h.1)])
        clear e1
        go_wp2
        go_ret
        exact ⟨HbF.out, .inl ⟨Hn.out, rfl⟩⟩
end Go.Proofs.YtmebpgggfppmhaaDoor
end
