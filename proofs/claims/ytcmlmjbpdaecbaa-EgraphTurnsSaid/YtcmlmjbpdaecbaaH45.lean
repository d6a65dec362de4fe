/- Plain: what was told to a graph; told in another order it is the same. -/
import Derived.Test.YtcmlmjbpdaecbaaH44
import Derived.Test.YtcmlmjbpdaecbaaH31
set_option linter.unusedVariables false
set_option linter.unusedSimpArgs false
namespace Go.Proofs.Ytcmlmjbpdaecbaa
set_option linter.unusedVariables false
set_option linter.unusedSimpArgs false
namespace E
open T

/-- what was told: pairs of numbers whose classes have one width -/
def Told2 (nm : List Nat) (wd : List Int) (D : List (Int × Int)) (a b : Nat) : Prop := ∃ q ∈ D, (nmOk nm q.1 && nmOk nm q.2) = true ∧ a = nm.getD q.1.toNat 0 ∧ b = nm.getD q.2.toNat 0 ∧ wd.getD a 0 = wd.getD b 0

/-- the parents and operations of a graph to which D was told -/
structure Uni (s0 : Gr) (out : List Nd) (D : List (Int × Int)) (p : List Nat) (es : List (Opn × Nat)) : Prop where
  holds : Holds (ops out) (Told2 s0.nm s0.wd D) p es
  len : p.length = out.length

theorem ops_nodup {out : List Nd} (h : Wl out) : ((ops out).map Prod.fst).Nodup := by
  have key : ∀ (l : List Nd) (k : Nat), l.Nodup → (∀ x ∈ l, Nw x) → ((opsF k l).map Prod.fst).Nodup := by
    intro l
    induction l with
    | nil => intro k _ _; exact List.nodup_nil
    | cons x l ih =>
      intro k hn hw
      rw [List.nodup_cons] at hn
      simp only [opsF, List.map_cons, List.nodup_cons]
      refine ⟨fun hm => ?_, ih (k + 1) hn.2 fun y hy => hw y (List.mem_cons_of_mem _ hy)⟩
      obtain ⟨e, he, e1⟩ := List.mem_map.1 hm
      obtain ⟨i, y, hy, rfl⟩ := mem_opsF.1 he
      have := opn_eq (hw y (List.mem_cons_of_mem _ (List.mem_of_getElem? hy))) (hw x (List.mem_cons_self ..)) e1
      subst this
      exact hn.1 (List.mem_of_getElem? hy)
  exact key out 0 h.nd h.nw
theorem Uni.start {s0 : Gr} {out : List Nd} (h : Fr s0 out) : Uni s0 out [] s0.p s0.es := by
  have hd : Down s0.p := fun c hc => by
    rw [h.p] at hc ⊢
    rw [List.length_range] at hc
    rw [List.getD_eq_getElem?_getD, List.getElem?_range hc]; exact Nat.le_refl _
  refine ⟨?_, by rw [h.p]; simp⟩
  have hs := holds_start (E0 := ops out) (p := s0.p) (fun c => by rw [h.p]; exact range_root _ _) hd (fun e he => ?_) (ops_nodup h.wl)
  · rw [h.es]
    exact hs.iff fun x y => ⟨fun h => h.elim, fun ⟨q, hq, _⟩ => by cases hq⟩
  · obtain ⟨i, x, hx, rfl⟩ := mem_ops.1 he
    have := (List.getElem?_eq_some_iff.1 hx).1
    rw [h.p]; simpa using this

/-- classes that are one have one width -/
theorem Uni.width {s0 : Gr} {out : List Nd} {D : List (Int × Int)} {p : List Nat} {es : List (Opn × Nat)} (h : Uni s0 out D p es) (hf : Fr s0 out) {a b : Nat} (e : root p a = root p b) : s0.wd.getD a 0 = s0.wd.getD b 0 := by
  refine (h.holds.eq a b).1 e (fun x y => s0.wd.getD x 0 = s0.wd.getD y 0) ⟨fun _ => rfl, fun _ _ h => h.symm, fun _ _ _ h k => h.trans k⟩ (fun y hy z hz s => ?_) (fun x y ⟨q, _, _, _, _, hw⟩ => hw)
  obtain ⟨i, x, hx, rfl⟩ := mem_ops.1 hy
  obtain ⟨j, x', hx', rfl⟩ := mem_ops.1 hz
  dsimp only
  rw [hf.wd, List.getD_eq_getElem?_getD, List.getD_eq_getElem?_getD, List.getElem?_map, List.getElem?_map, hx, hx']
  exact s.1.2.1
theorem join_roots {p : List Nat} (hd : Down p) (a b : Nat) : join p (root p a) (root p b) = join p a b := by
  unfold join; rw [root_root hd, root_root hd]
theorem root_w {s0 : Gr} {out : List Nd} {D : List (Int × Int)} {p : List Nat} {es : List (Opn × Nat)} (h : Uni s0 out D p es) (hf : Fr s0 out) (a : Nat) : s0.wd.getD (root p a) 0 = s0.wd.getD a 0 := h.width hf (root_root h.holds.down a)

/-- a pair is told -/
theorem Uni.ok {s0 : Gr} {out : List Nd} {D : List (Int × Int)} {p : List Nat} {es : List (Opn × Nat)} (h : Uni s0 out D p es) (hf : Fr s0 out) (hnm : ∀ c ∈ s0.nm, c < out.length) {x y : Int} (hok : (nmOk s0.nm x && nmOk s0.nm y) = true) (hw : s0.wd.getD (nr p s0.nm x) 0 = s0.wd.getD (nr p s0.nm y) 0) {p1 : List Nat} {es1 : List (Opn × Nat)} (hs : Shut (join p (nr p s0.nm x) (nr p s0.nm y)) es p1 es1) : Uni s0 out (D ++ [(x, y)]) p1 es1 := by
  have hlt : ∀ z, nmOk s0.nm z = true → s0.nm.getD z.toNat 0 < p.length := fun z hz => by
    simp [nmOk] at hz
    rw [h.len]
    refine hnm _ ?_
    rw [List.getD_eq_getElem?_getD, List.getElem?_eq_getElem (by omega)]
    exact List.getElem_mem _
  rw [Bool.and_eq_true] at hok
  unfold nr at hs hw
  rw [join_roots h.holds.down] at hs
  rw [root_w h hf, root_w h hf] at hw
  have hj := h.holds.unite (hlt x hok.1) (hlt y hok.2) hs
  refine ⟨hj.iff fun a b => ⟨?_, ?_⟩, hs.mid.len.trans (by rw [join_len, h.len])⟩
  · rintro (⟨q, hq, r⟩ | ⟨rfl, rfl⟩)
    · exact ⟨q, List.mem_append_left _ hq, r⟩
    · exact ⟨(x, y), by simp, by rw [Bool.and_eq_true]; exact hok, rfl, rfl, hw⟩
  · rintro ⟨q, hq, r⟩
    rcases List.mem_append.1 hq with hq | hq
    · exact .inl ⟨q, hq, r⟩
    · simp at hq
      subst hq
      exact .inr ⟨r.2.1, r.2.2.1⟩
/-- a pair is refused -/
theorem Uni.no {s0 : Gr} {out : List Nd} {D : List (Int × Int)} {p : List Nat} {es : List (Opn × Nat)} (h : Uni s0 out D p es) (hf : Fr s0 out) {x y : Int} (hno : (nmOk s0.nm x && nmOk s0.nm y) = false ∨ s0.wd.getD (nr p s0.nm x) 0 ≠ s0.wd.getD (nr p s0.nm y) 0) : Uni s0 out (D ++ [(x, y)]) p es := by
  refine ⟨h.holds.iff fun a b => ⟨fun ⟨q, hq, r⟩ => ⟨q, List.mem_append_left _ hq, r⟩, ?_⟩, h.len⟩
  rintro ⟨q, hq, r⟩
  rcases List.mem_append.1 hq with hq | hq
  · exact ⟨q, hq, r⟩
  · simp at hq
    subst hq
    exfalso
    obtain ⟨r1, r2, r3, r4⟩ := r
    rcases hno with h1 | h1
    · rw [r1] at h1; cases h1
    · unfold nr at h1
      rw [root_w h hf, root_w h hf] at h1
      rw [r2, r3] at r4
      exact h1 r4

/-- all pairs in range, the other way round -/
def back (n : Nat) (D : List (Int × Int)) : List (Int × Int) := (D.reverse.filter fun q => decide (0 ≤ q.1) && decide (q.1 < (n : Int)) && decide (0 ≤ q.2) && decide (q.2 < (n : Int))).map fun q => ((n : Int) - 1 - q.1, (n : Int) - 1 - q.2)
theorem mem_back {n : Nat} {D : List (Int × Int)} {q : Int × Int} : q ∈ back n D ↔ ∃ r ∈ D, (0 ≤ r.1 ∧ r.1 < (n : Int)) ∧ (0 ≤ r.2 ∧ r.2 < (n : Int)) ∧ q = ((n : Int) - 1 - r.1, (n : Int) - 1 - r.2) := by
  unfold back
  simp only [List.mem_map, List.mem_filter, List.mem_reverse, Bool.and_eq_true, decide_eq_true_eq]
  constructor
  · rintro ⟨r, ⟨h1, ⟨⟨h2, h3⟩, h4⟩, h5⟩, rfl⟩; exact ⟨r, h1, ⟨h2, h3⟩, ⟨h4, h5⟩, rfl⟩
  · rintro ⟨r, h1, ⟨h2, h3⟩, ⟨h4, h5⟩, rfl⟩; exact ⟨r, ⟨h1, ⟨⟨h2, h3⟩, h4⟩, h5⟩, rfl⟩
theorem rev_at {α : Type} {l : List α} {k : Nat} (h : k < l.length) : l.reverse[l.length - 1 - k]? = l[k]? := by
  rw [List.getElem?_reverse (by omega)]
  congr 1
  omega

theorem turns_plain {sg sh : Gr} {og oh : List Nd} {fs : List F} {cg ch : Nat → Int} (hG : Fresh sg og fs cg) (hH : Fresh sh oh fs.reverse ch) {D : List (Int × Int)} {pg ph : List Nat} {eg eh : List (Opn × Nat)} (uG : Uni sg og D pg eg) (uH : Uni sh oh (back fs.length D) ph eh) :
    (∀ a b : Nat, a < fs.length → b < fs.length → (nr pg sg.nm a = nr pg sg.nm b ↔ nr ph sh.nm ((fs.length : Int) - 1 - a) = nr ph sh.nm ((fs.length : Int) - 1 - b))) ∧ roots pg = roots ph ∧ eg.length = eh.length := by
  have tot : ∀ i, i < og.length → ∃ j, Tw og oh i j := fun i hi => by
    obtain ⟨f, r, q, hq, hs⟩ := hG.sub i hi
    obtain ⟨k, hk⟩ := List.getElem?_of_mem hq
    have hkl := (List.getElem?_eq_some_iff.1 hk).1
    obtain ⟨j0, _, rj⟩ := hH.named (fs.length - 1 - k) q (by rw [rev_at hkl]; exact hk)
    obtain ⟨j, r'⟩ := rep_sub rj hs
    exact ⟨j, f, r, r'⟩
  have tot' : ∀ j, j < oh.length → ∃ i, Tw og oh i j := fun j hj => by
    obtain ⟨f, r, q, hq, hs⟩ := hH.sub j hj
    rw [List.mem_reverse] at hq
    obtain ⟨k, hk⟩ := List.getElem?_of_mem hq
    obtain ⟨i0, _, ri⟩ := hG.named k q hk
    obtain ⟨i, r'⟩ := rep_sub ri hs
    exact ⟨i, f, r', r⟩
  -- the numbers of one term
  have twin : ∀ k : Nat, k < fs.length → Tw og oh (sg.nm.getD k 0) (sh.nm.getD (fs.length - 1 - k) 0) := fun k hk => by
    obtain ⟨i, h1, r1⟩ := hG.named k fs[k] (List.getElem?_eq_getElem hk)
    obtain ⟨j, h2, r2⟩ := hH.named (fs.length - 1 - k) fs[k] (by rw [rev_at hk]; exact List.getElem?_eq_getElem hk)
    rw [List.getD_eq_getElem?_getD, List.getD_eq_getElem?_getD, h1, h2]
    exact ⟨_, r1, r2⟩
  have hwd : ∀ i j, Tw og oh i j → sg.wd.getD i 0 = sh.wd.getD j 0 := fun i j t => by
    obtain ⟨x, y, hx, hy, e, _⟩ := t.node
    rw [hG.fr.wd, hH.fr.wd, List.getD_eq_getElem?_getD, List.getD_eq_getElem?_getD, List.getElem?_map, List.getElem?_map, hx, hy]
    exact e.2.1
  have hlen : sh.nm.length = fs.length := by rw [hH.nm, List.length_reverse]
  have hidx : ∀ z : Int, 0 ≤ z → z < (fs.length : Int) → ((fs.length : Int) - 1 - z).toNat = fs.length - 1 - z.toNat := fun z h1 h2 => by omega
  obtain ⟨k1, k2, k3⟩ := turns_same hG.fr.wl hH.fr.wl tot tot' uG.holds uH.holds uG.len uH.len (fun x y ⟨q, hq, h1, h2, h3, h4⟩ => by
    rw [Bool.and_eq_true] at h1
    simp only [nmOk, Bool.and_eq_true, decide_eq_true_eq] at h1
    rw [hG.nm] at h1
    have tx := twin q.1.toNat (by omega)
    have ty := twin q.2.toNat (by omega)
    rw [← h2] at tx
    rw [← h3] at ty
    refine ⟨_, _, tx, ty, ((fs.length : Int) - 1 - q.1, (fs.length : Int) - 1 - q.2), mem_back.2 ⟨q, hq, h1.1, h1.2, rfl⟩, ?_, ?_, ?_, ?_⟩
    · simp only [nmOk, Bool.and_eq_true, decide_eq_true_eq]
      rw [hlen]
      omega
    · dsimp only; rw [hidx _ h1.1.1 h1.1.2]
    · dsimp only; rw [hidx _ h1.2.1 h1.2.2]
    · rw [← hwd _ _ tx, ← hwd _ _ ty]; exact h4) (fun x y ⟨q, hq, h1, h2, h3, h4⟩ => by
    obtain ⟨r, hr, r1, r2, rfl⟩ := mem_back.1 hq
    dsimp only at h2 h3
    rw [hidx _ r1.1 r1.2] at h2
    rw [hidx _ r2.1 r2.2] at h3
    have tx := twin r.1.toNat (by omega)
    have ty := twin r.2.toNat (by omega)
    rw [← h2] at tx
    rw [← h3] at ty
    refine ⟨_, _, tx, ty, r, hr, ?_, rfl, rfl, ?_⟩
    · simp only [nmOk, Bool.and_eq_true, decide_eq_true_eq]
      rw [hG.nm]
      omega
    · rw [hwd _ _ tx, hwd _ _ ty]; exact h4)
  refine ⟨fun a b ha hb => ?_, k2, k3⟩
  have := k1 _ _ _ _ (twin a ha) (twin b hb)
  unfold nr
  rw [hidx _ (by omega) (by omega), hidx _ (by omega) (by omega), Int.toNat_natCast, Int.toNat_natCast]
  exact this
end E
end Go.Proofs.Ytcmlmjbpdaecbaa
