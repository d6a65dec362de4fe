/- Walks of the program: a book is opened; negations. What a look does to what is known. -/
import Derived.Test.YtceelipcclfdmaaW22
namespace Go.Proofs.Ytceelipcclfdmaa
set_option linter.unusedVariables false
open Go.RowKit Go.Maps

namespace S
theorem PLook.inv {cs : List (List Int)} {given : List Int} {n : Nat} {l l' : List (Int × Bool)} {q q' c : List Int} {b : Bool} (hi : PInv cs given n (trl l)) (hc : c ∈ cs) (hcl : isClause n c = true) (h : PLook l q c b l' q') :
    (b = false ∧ Incons cs given) ∨ (b = true ∧ PInv cs given n (trl l') ∧ Fine (trl l') c ∧ (∀ d, Waits (trl l) q d → Waits (trl l') q' d) ∧ (∀ x, trl l x = true → trl l' x = true) ∧ q'.length + open_ n (trl l') ≤ q.length + open_ n (trl l)) := by
  rcases h with ⟨rfl, rfl, rfl, hf⟩ | ⟨rfl, rfl, rfl, hall⟩ | ⟨rfl, y, hy, ho, hother, rfl, rfl⟩
  · exact .inr ⟨rfl, hi, hf, fun _ h => h, fun _ h => h, Nat.le_refl _⟩
  · exact .inl ⟨rfl, incons_all hc fun m hm => hi.sound _ (hall m hm).2⟩
  · have hyl := List.all_eq_true.1 hcl y hy
    have hd : Der cs given y := .unit_ hc hy fun m hm hne => hi.sound _ (hother m hm hne).2
    rw [trl_put]
    refine .inr ⟨rfl, hi.also hyl hd ho.2, .inl ⟨y, hy, by simp [also]⟩, fun d hd => hd.also ho.2, fun x hx => by simp [also, hx], ?_⟩
    have := open_also hyl ho.1
    simp; omega

/-- What the program knows while it takes what is given. -/
structure Known (cs : List (List Int)) (given : List Int) (n : Nat) (k : Nat) (l : List (Int × Bool)) (q : List Int) : Prop where
  inv : PInv cs given n (trl l)
  giv : ∀ x ∈ given.take k, trl l x = true
  mass : q.length + open_ n (trl l) ≤ 2 * n
  lits_ : ∀ y ∈ q, isLit n y = true

theorem length_lits (n : Nat) : (lits n).length = 2 * n := by
  unfold lits
  induction n with
  | zero => rfl
  | succ n ih => rw [List.range_succ, List.flatMap_append, List.length_append, ih]; simp; omega
theorem known_start (cs : List (List Int)) (given : List Int) (n : Nat) : Known cs given n 0 [] [] :=
  ⟨⟨fun l h => by simp [trl, AL.get] at h, fun l h => by simp [trl, AL.get] at h, fun l h => by simp [trl, AL.get] at h⟩, fun x hx => by simp at hx, by
    unfold open_
    have := List.countP_le_length (l := lits n) (p := fun l => !trl [] l)
    rw [length_lits] at this
    simpa using this, fun y hy => by simp at hy⟩

theorem Known.take {cs : List (List Int)} {given : List Int} {n k : Nat} {l l' : List (Int × Bool)} {q q' : List Int} (h : Known cs given n k l q) (hg : isClause n given = true) {x : Int} (hx : given[k]? = some x)
    (hp : (trl l x = true ∧ l' = l ∧ q' = q) ∨ (trl l x = false ∧ l' = AL.put l x true ∧ q' = q ++ [x])) :
    (trl l' (-x) = true ∧ Incons cs given) ∨ (trl l' (-x) = false ∧ Known cs given n (k + 1) l' q') := by
  have hxm := List.mem_of_getElem? hx
  have hxl := List.all_eq_true.1 hg x hxm
  have htk : ∀ y, y ∈ given.take (k + 1) → y ∈ given.take k ∨ y = x := fun y hy => by
    rw [List.take_add_one, hx] at hy
    rcases List.mem_append.1 hy with hy | hy
    · exact .inl hy
    · simp at hy; exact .inr hy
  rcases hp with ⟨ht, rfl, rfl⟩ | ⟨ht, rfl, rfl⟩
  · refine .inr ⟨h.inv.con x ht, h.inv, fun y hy => ?_, h.mass, h.lits_⟩
    rcases htk y hy with hy | rfl
    · exact h.giv y hy
    · exact ht
  · have hql : ∀ y ∈ q ++ [x], isLit n y = true := fun y hy => by
      rcases List.mem_append.1 hy with hy | hy
      · exact h.lits_ y hy
      · rw [List.mem_singleton.1 hy]; exact hxl
    have hne := isLit_ne hxl
    have e1 : trl (AL.put l x true) (-x) = trl l (-x) := by rw [trl_put]; simp only [also]; rw [if_neg (by omega)]
    rw [e1]
    cases hn : trl l (-x)
    · refine .inr ⟨rfl, ?_, fun y hy => ?_, ?_, hql⟩
      · rw [trl_put]; exact h.inv.also hxl (.given_ hxm) hn
      · rw [trl_put]
        rcases htk y hy with hy | rfl
        · simp [also, h.giv y hy]
        · simp [also]
      · rw [trl_put]
        have := open_also hxl ht
        have := h.mass
        simp; omega
    · exact .inl ⟨rfl, incons_of (.given_ hxm) (h.inv.sound _ hn)⟩

theorem Known.look {cs : List (List Int)} {given : List Int} {n k : Nat} {l l' : List (Int × Bool)} {q q' c : List Int} {b : Bool} (h : Known cs given n k l q) (hc : c ∈ cs) (hcl : isClause n c = true) (hp : PLook l q c b l' q') :
    (b = false ∧ Incons cs given) ∨ (b = true ∧ Known cs given n k l' q' ∧ Fine (trl l') c ∧ (∀ d, Waits (trl l) q d → Waits (trl l') q' d) ∧ q'.length + open_ n (trl l') ≤ q.length + open_ n (trl l)) := by
  rcases hp.inv h.inv hc hcl with h1 | ⟨h1, h2, h3, h4, h5, h6⟩
  · exact .inl h1
  · refine .inr ⟨h1, ⟨h2, fun x hx => h5 x (h.giv x hx), Nat.le_trans h6 h.mass, fun y hy => ?_⟩, h3, h4, h6⟩
    rcases hp with ⟨_, _, rfl, _⟩ | ⟨_, _, rfl, _⟩ | ⟨_, z, hz, _, _, _, rfl⟩
    · exact h.lits_ y hy
    · exact h.lits_ y hy
    · rcases List.mem_append.1 hy with hy | hy
      · exact h.lits_ y hy
      · rw [List.mem_singleton.1 hy]; exact List.all_eq_true.1 hcl z hz

theorem Waits.pop {tr : Int → Bool} {x : Int} {r c : List Int} (h : Waits tr (x :: r) c) : Waits tr r c ∨ -x ∈ c := by
  rcases h with h | ⟨m, hm, hq⟩
  · exact .inl (.inl h)
  · rcases List.mem_cons.1 hq with e | e
    · exact .inr (by rw [← e, Int.neg_neg]; exact hm)
    · exact .inl (.inr ⟨m, hm, e⟩)
end S

def tot (cs : List (List Int)) : Nat := (cs.map List.length).sum
theorem tot_take_succ {cs : List (List Int)} {k : Nat} {x : List Int} (h : cs[k]? = some x) : tot (cs.take (k + 1)) = tot (cs.take k) + x.length := by
  unfold tot; rw [take_succ_of h]; simp
theorem tot_take_le (cs : List (List Int)) (k : Nat) : tot (cs.take k) ≤ tot cs := by
  unfold tot
  conv => rhs; rw [← List.take_append_drop k cs]
  rw [List.map_append, List.sum_append]; omega
theorem length_le_tot {cs : List (List Int)} {x : List Int} (h : x ∈ cs) : x.length ≤ tot cs := by
  unfold tot
  induction cs with
  | nil => cases h
  | cons y r ih =>
    rcases List.mem_cons.1 h with rfl | h
    · simp
    · have := ih h; simp; omega

def SomeOpen (w : World) (cs : List (List Int)) (e : Ending) (w' : World) : Prop :=
  ∃ Bk Mw cv us lw blk, e = .returned (.pointer (some ⟨Bk, 0, none⟩)) ∧ BkAt w' w w.heap.size Bk Mw cv us cs lw blk (tot cs) ∧ Idx cs lw ∧ Below w.heap.size w w'

theorem run_makeMap_any {P : Program} {t k e : TypeId} (ht : P.underlying t = some (.map k e)) (w : World) : (Instr.makeMap t none).run P w = .ok (.map (some w.heap.size)) (w.alloc (.map #[] 0)) := by
  simp [Instr.makeMap]
  try rfl

theorem BkAt.start (w : World) : BkAt ((w.alloc (.map #[] 0)).alloc (.cells #[.slice none 0 0, .map (some w.heap.size)] 83)) w w.heap.size (w.heap.size + 1) w.heap.size (.slice none 0 0) [] [] [] (fun _ => none) 0 := by
  refine ⟨?_, OwnAt.nil_ _ _ _, ⟨rfl, fun k x u hx => by simp at hx⟩, ?_, fun _ _ _ h => (by cases h), by omega, by omega, fun g hg => (by simp [Value.ownBlock] at hg), fun _ _ h => (by cases h), fun x => by simp [gl, AL.get]⟩
  · have h := Go.heap_alloc_new (w.alloc (.map #[] 0)) (.cells #[.slice none 0 0, .map (some w.heap.size)] 83)
    simpa using h
  · exact (MapAt.made (R := fun _ _ _ _ => False) w).keep (Below.heap_alloc _ _ _ (by simp)) (fun _ _ _ h => h.elim)

set_option maxHeartbeats 1000000 in
theorem open_any (n : Nat) (A : Option Addr) (m d : Nat) (cs : List (List Int)) (w : World) (hA : SlAt (SlR (IntR .i64)) w A m cs) (hc : cs.all (S.isClause n) = true) (hn : n ≤ 4000) (ht : tot cs ≤ 10000000) (hm : m ≤ 100000) :
    Calls Try.prog 33 #[.slice A m d] w (SomeOpen w cs) := by
  have HA := Lib.hid hA; clear hA
  have HC := Lib.hid hc; clear hc
  have Ht := Lib.hid ht; clear ht
  have hmk := fun W => run_makeMap_any (P := Try.prog) Try.underlying81 W
  have HS := Lib.hid (BkAt.start w)
  have HB := Lib.hid (show Below w.heap.size w ((w.alloc (.map #[] 0)).alloc (.cells #[.slice none 0 0, .map (some w.heap.size)] 83)) from ((Below.refl _ _).alloc (Nat.le_refl _) _).alloc (by simp) _)
  go_enter Try.func33, Try.ntmps33
  go_wp2
  clear hmk
  go_loopg [11] (m + 1) (fun g i wr => ∃ (k : Nat) (cv : Value) (us : List Value) (lw : List (Int × List Int)) (blk : Int → Option Nat), k ≤ m ∧ i = .int .i64 (k : Int) ∧ g + k = m + 1 ∧ BkAt wr w w.heap.size (w.heap.size + 1) w.heap.size cv us (cs.take k) lw blk (tot (cs.take k)) ∧ Idx (cs.take k) lw ∧ Below w.heap.size w wr)
  case atStart => exact ⟨0, _, _, _, _, Nat.zero_le _, rfl, rfl, HS.out, ⟨fun x i c hc => by simp at hc, fun x i hi => by simp [gl, AL.get] at hi⟩, HB.out⟩
  case round =>
    obtain ⟨k, cv, us, lw, blk, hk, rfl, hgk, hbk, hidx, hbw⟩ := hrel
    have Hgk := Lib.hid hgk; clear hgk
    have Hbk := Lib.hid hbk; clear hbk
    have HI := Lib.hid hidx; clear hidx
    by_cases hlt : k < m
    · obtain ⟨x, b, off, u, hx, hAA, _, h1, A1, c1, rfl, s1⟩ := HA.out.at_ hlt
      have hcw := (hbw.cell (p := ⟨b, off + k, none⟩) (World.block_lt_of_cell? _ _ h1)).trans h1
      subst hAA
      have hxm := List.mem_of_getElem? hx
      have hts := tot_take_succ hx
      have htl := tot_take_le cs (k + 1)
      have con := write_any w w.heap.size (w.heap.size + 1) w.heap.size cv us (cs.take k) lw blk (tot (cs.take k)) n A1 x.length c1 x wr Hbk.out HI.out (s1.below (monoInt _) hbw) s1 (Nat.le_refl _) (List.all_eq_true.1 HC.out x hxm) hn (by have := Ht.out; omega) (by have := List.length_take_le k cs; omega)
      have Hcon := Lib.hid con; clear con s1 hts htl hxm
      have Hx := Lib.hid hx; clear hx h1
      go_wp2_with fail
      refine Hcon.out.mono ?_
      rintro e w1 ⟨cv', lw', blk', rfl, hbk1, hidx1, hb1⟩
      have Hbk1 := Lib.hid hbk1; clear hbk1
      have HI1 := Lib.hid hidx1; clear hidx1
      go_wp2
      go_roundg (gk - 1)
      case measure => have := Hgk.out; omega
      case rel =>
        have := Hgk.out
        refine ⟨k + 1, cv', us ++ [.slice A1 x.length c1], lw', blk', by omega, by go_num, by omega, ?_, by rw [take_succ_of Hx.out]; exact HI1.out, hbw.trans hb1⟩
        rw [tot_take_succ Hx.out, take_succ_of Hx.out]
        exact Hbk1.out
    · go_wp2
      go_ret
      have hbk := Hbk.out
      have hi := HI.out
      rw [take_all HA.out.len (by omega)] at hbk hi
      exact ⟨_, _, cv, us, lw, blk, rfl, hbk, hi, hbw⟩

set_option maxHeartbeats 1000000 in
theorem negated_any (n : Nat) (A : Option Addr) (m d : Nat) (c : List Int) (w : World) (hA : SlAt (IntR .i64) w A m c) (hc : S.isClause n c = true) (hn : n ≤ 4000) (hm : m ≤ 100000000) :
    Calls Try.prog 62 #[.slice A m d] w fun e w' => ∃ A' d', e = .returned (.slice A' m d') ∧ SlAt (IntR .i64) w' A' m (S.negs c) ∧ Below w.heap.size w w' := by
  have HA := Lib.hid hA; clear hA
  have HC := Lib.hid hc; clear hc
  go_enter Try.func62, Try.ntmps62
  go_wp2
  go_loopg [3, 8] (m + 1) (fun g v i wr => ∃ k : Nat, k ≤ m ∧ i = .int .i64 k ∧ g + k = m + 1 ∧ OwnAt wr 3 1 v k ((S.negs (c.take k)).map (Value.int .i64)) ∧ Below w.heap.size w wr ∧ (∀ g, v.ownBlock = some g → w.heap.size ≤ g))
  case atStart => exact ⟨0, Nat.zero_le _, rfl, rfl, OwnAt.nil_ _ _ _, Below.refl _ _, fun g hg => by simp [Value.ownBlock] at hg⟩
  case round =>
    obtain ⟨k, hk, rfl, hgk, hown, hbw, hob⟩ := hrel
    have Hgk := Lib.hid hgk; clear hgk
    have Hown := Lib.hid hown; clear hown
    have Hob := Lib.hid hob; clear hob
    by_cases hlt : k < m
    · obtain ⟨x, b, off, u, hx, rfl, _, h1, rfl⟩ := (HA.out.below (monoInt _) hbw).at_ hlt
      obtain ⟨hx1, hx2, hx3⟩ := isLit_wf ⟨by omega, by omega⟩ (lit_at HC.out hx)
      have Hx := Lib.hid hx; clear hx hx3
      go_wp2_with (at_builtin; refine wpList_append_one _ rfl (.tmp 12) (.tmp 15) 23 rfl 3 (.int .i64 0) 8 Try.underlying23 Try.infoInt rfl _ k _ rfl Hown.out (.int .i64 (-x)) rfl 3 rfl (by omega) (by omega) ?_; intro v' w1 hown' hgr hat)
      have Hown' := Lib.hid hown'.appended; clear hown'
      obtain ⟨hb1, hv1⟩ := below_append hbw hbw.size Hob.out hgr hat
      have Hv1 := Lib.hid hv1; clear hv1 hgr hat
      go_wp2
      go_roundg (gk - 1)
      case measure => have := Hgk.out; omega
      case rel =>
        have := Hgk.out
        refine ⟨k + 1, by omega, by go_num, by omega, ?_, hb1, Hv1.out⟩
        have h3 := Hown'.out
        rw [take_succ_of Hx.out]
        simpa [S.negs] using h3
    · have hown := Hown.out
      rw [take_all HA.out.len (by omega)] at hown
      obtain ⟨A2, c2, rfl⟩ := hown.form
      obtain rfl : k = m := by omega
      have Hown2 := Lib.hid hown; clear hown
      go_wp2
      go_ret
      exact ⟨A2, c2, rfl, Hown2.out.slInts, hbw⟩

/-- 'q[k:]' of a slice of the call's own. -/
theorem wpList_slice_from {P : Program} (w : World) {ops : Array Oper} {rest : List Oper} {o : Oper} {a : Act} {Q : Exit → Act → World → Prop} (hgd : o.guard = none) (x lo : Operand) (t : TypeId) (hop : o.op = Op.slice t x (some lo) none none)
    (e : TypeId) (z : Value) (bytes : Nat) (ht : P.underlying t = some (.slice e)) (hinfo : (P.info? e).map (fun i => (i.zero, i.size, i.bytes)) = some (some z, 1, bytes))
    (v : Value) (n : Nat) (xs : List Value) (hx : a.eval x = v) (hown : OwnAt w e 1 v n xs) (kl : IntKind) (k : Nat) (C : Int) (hlo : a.eval lo = .int kl C) (hC : C = (k : Int)) (hk : k ≤ n) (hn : 0 < n)
    (hK : ∀ v', OwnAt w e 1 v' (n - k) (xs.drop k) → v'.ownBlock = v.ownBlock → wpList P ops Q rest (a.put o.dst v') w) : wpList P ops Q (o :: rest) a w := by
  obtain ⟨i, hi, hz, hsz, hby⟩ := info_parts hinfo
  refine wpList_plain hgd fun K' hK' => ?_
  rcases hown.2 with ⟨rfl, h0⟩ | ⟨g, off, cap, cur, rfl, hg, hnc, hcm, hcs, hcur⟩
  · omega
  subst hC
  have hrun : (Instr.sliceAt t (.slice (some ⟨g, off, none⟩) n cap) (some (.int kl (k : Int))) none none).run P w = .ok (.slice (some (if cap = k then ⟨g, off, none⟩ else ⟨g, off + k, none⟩)) (n - k) (cap - k)) w := by
    simp [Instr.sliceAt, Instr.slice, Instr.sliceBounds, Instr.sliceBound, run_underlying ht, asIntOf, sizeOf, typeInfo, hi, hsz, hk]
    by_cases hck : cap = k
    · simp [hck]
    · simp [hck, addr_add_zero]
  unfold Oper.wp
  simp [execOp, hop, hx, hlo, hrun, Result.andThen]
  refine hK' _ _ (hK _ ⟨by simp [hown.1], .inr ?_⟩ ?_)
  · by_cases hck : cap = k
    · rw [if_pos hck]
      exact ⟨g, off, cap - k, cur, rfl, hg, by omega, by omega, by omega, fun j u hu => by
        rw [List.getElem?_drop] at hu
        have := (List.getElem?_eq_some_iff.1 hu).1
        have := hown.1
        omega⟩
    · rw [if_neg hck]
      exact ⟨g, off + k, cap - k, cur, rfl, hg, by omega, by omega, by omega, fun j u hu => by
        rw [List.getElem?_drop] at hu
        rw [Nat.add_assoc]; exact hcur _ u hu⟩
  · split <;> rfl
end Go.Proofs.Ytceelipcclfdmaa
