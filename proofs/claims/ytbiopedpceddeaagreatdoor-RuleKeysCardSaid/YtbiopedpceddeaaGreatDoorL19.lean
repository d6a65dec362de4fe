/- Merged: RV5, RV6, RV7, RV8. -/
import Derived.Test.YtbiopedpceddeaaGreatDoorL18
set_option linter.unusedVariables false
set_option linter.unusedSimpArgs false
section
namespace Go.Proofs.YtbiopedpceddeaaGreatDoor
open Go.RowKit Go.MapKept Go.Maps Go.WideMaps
set_option linter.unusedVariables false
set_option linter.unusedSimpArgs false

theorem made_add (ks : List (Nat × Obj)) (W0 : World) (bb : Nat) : MadeOk ks 94 #[.pointer (some ⟨bb, 0, none⟩)] #[] T.mkA (fun _ => True) 1 W0 bb 900000 := by
  refine ⟨enters_of Tryz.func94 (by kernel_rfl) rfl, fun X out M x A c hb hbu harg hx _ hnd hord hlo hlen _ => ?_⟩
  refine (gadd_any W0.heap.size bb out M x A c X hbu hb.size harg hx hlen).mono ?_
  rintro e w' ⟨h1, h2⟩
  exact ⟨h1, T.addN_len, h2⟩

/-- a builder that is made anew, with a map of what was seen -/
theorem from_start {mk : T.Nd → List T.Nd → List T.Nd × Int} {t : List T.Nd} {g : Nat} {W X : World} (hX : X = (W.alloc (.cells #[.slice none 0 0, .map none] 148)).alloc (.map #[] 0)) :
    FromSt [] mk t g 0 W W.heap.size (W.heap.size + 1) X [] (fun i => i = W.heap.size) [] := by
  have hr : X.heap[W.heap.size]? = some (.cells #[.slice none 0 0, .map none] 148 (0, 0)) := by rw [hX]; exact row_alloc (heap_alloc_new W _) _
  have hs : X.heap.size = W.heap.size + 2 := by rw [hX]; simp
  have hm : MapAt Tryz.prog 3 ekI IntI X (W.heap.size + 1) [] := by
    have := MapAt.made (P := Tryz.prog) (kt := 3) (ek := ekI) (R := IntI) (W.alloc (.cells #[.slice none 0 0, .map none] 148))
    rw [← hX] at this
    simpa using this
  refine ⟨by rw [hX]; exact ((Below.refl _ _).alloc (Nat.le_refl _) _).alloc (by simp) _, ⟨fun i hi => by subst hi; omega, rfl, fun x hx => by simp at hx, _, _, hr, OwnM.nil_ _ _, .inl ⟨rfl, rfl⟩⟩, by omega, by omega, hm, fun k n h => by simp [AL.get] at h, fun p hp => by simp at hp, List.nodup_nil, T.ord_nil, by simp, fun p hp => by simp at hp⟩

set_option maxRecDepth 100000 in
set_option maxHeartbeats 1000000 in
theorem gpart_any {t : List T.Nd} {n ct : Nat} {At : Option Addr} {W : World} (hT : StAt 5 NdR W At n t) (hw : TWf t) (hn : n ≤ 900000) (k : Nat) (hk : k < n) (fr : T.F) (hfr : T.Rep t [(k : Int)] fr) :
    Calls Tryz.prog 95 #[.slice At n ct, .int .i64 (k : Int)] W fun e W' => ∃ A' c', e = .returned (.slice A' (T.canon fr).length c') ∧ StAt 5 NdR W' A' (T.canon fr).length (T.canon fr) ∧ Below W.heap.size W W' ∧ ∀ W'', (∀ i, W.heap.size ≤ i → i < W'.heap.size → W''.heap[i]? = W'.heap[i]?) → StAt 5 NdR W'' A' (T.canon fr).length (T.canon fr) := by
  obtain ⟨X, hX⟩ : ∃ X, X = (W.alloc (.cells #[.slice none 0 0, .map none] 148)).alloc (.map #[] 0) := ⟨_, rfl⟩
  have hmk := fun W => run_makeMap_any (P := Tryz.prog) Tryz.underlying150 W
  have hst := from_start (mk := T.mkA) (t := t) (g := 1) hX
  have Hcall := Lib.hid (gfrom_any (D := fun _ => True) hT hw (fun _ _ _ => trivial) (made_add [] W W.heap.size) T.mkA_ok (base := 0) (by omega) (by omega) (by omega) k hk (ct := ct) X (W.heap.size + 1) [] _ [] hst fr hfr)
  have HX := Lib.hid hX
  clear hT hw hst hfr
  go_enter Tryz.func95, Tryz.ntmps95
  go_wp2_with fail
  rw [← hX]
  clear hX hmk
  (with_reducible refine Hcall.out.mono ?_)
  rintro e w2 ⟨r, M', l', rfl, hr, hst, hkp, _, _, _⟩
  have hcn : (T.cnnG T.mkA fr []).1 = T.canon fr := by rw [T.cnnG_A]; rfl
  rw [hcn] at hst
  obtain ⟨v, fm, hrow, hown, _⟩ := hst.bu.cells
  obtain ⟨A', c', rfl⟩ := hown.form
  have k0 : w2.cell? ⟨W.heap.size, 0, none⟩ = some (.slice A' (T.canon fr).length c') := by rw [cell_of_row _ _ _ _ _ (0, 0) hrow]; rfl
  have Hown := Lib.hid hown
  have Hb := Lib.hid hst.bel
  have HM := Lib.hid hst.bu.in_
  clear hrow hown hst hkp hr hcn
  go_wp2
  go_ret
  exact ⟨A', c', rfl, Hown.out.stAt rfl, Hb.out, fun W'' h => OwnM.stAt (Hown.out.same fun i hi => h i (HM.out i hi).1 (HM.out i hi).2) rfl⟩
end Go.Proofs.YtbiopedpceddeaaGreatDoor
end
section
namespace Go.Proofs.YtbiopedpceddeaaGreatDoor
open Go.RowKit
set_option linter.unusedVariables false
set_option linter.unusedSimpArgs false

theorem infoCd : (Tryz.prog.info? 88).map (fun i => (i.zero, i.size, i.bytes)) = some (some (.agg #[.int .i64 0, .int .i64 0, .int .u32 0]), 3, 24) := by kernel_rfl

theorem slice_nil_equalIn {P : Program} {t e : TypeId} (ht : P.underlying t = some (.slice e)) (A : Option Addr) (n c : Nat) (w : World) (d : Nat) : (Op.equalIn (d + 1) t (.slice A n c) (.slice none 0 0)).run P w = .ok A.isNone w := by
  cases A <;> simp [Op.equalIn, run_underlying ht]
theorem slice_nil_eq {P : Program} {t e : TypeId} (ht : P.underlying t = some (.slice e)) (A : Option Addr) (n c : Nat) (w : World) : (binOp .eql t (.slice A n c) (.slice none 0 0)).run P w = .ok (.bool A.isNone) w := by
  have h := slice_nil_equalIn ht A n c w 9999
  simp only [binOp]
  simp [Op.equal, show (Op.equalIn Op.maxDepth t (.slice A n c) (.slice none 0 0)).run P w = _ from h]

/-- a clone: the same cells, in new memory -/
def Cloned (e : TypeId) (s : Nat) (W : World) (n : Nat) (us : List Value) (en : Ending) (W' : World) : Prop :=
  ∃ v, en = .returned v ∧ OwnAt W' e s v n us ∧ Below W.heap.size W W' ∧ ∀ g, v.ownBlock = some g → W.heap.size ≤ g

theorem ownAt_empty (W : World) (e : TypeId) (s : Nat) : OwnAt (W.alloc (.cells #[] e)) e s (.slice (some ⟨W.heap.size, 0, none⟩) 0 0) 0 [] := ⟨by simp, .inr ⟨W.heap.size, 0, 0, #[], rfl, heap_alloc_new W _, Nat.le_refl _, by simp [maxLen], by simp, fun j u h => by simp at h⟩⟩

set_option maxRecDepth 100000 in
set_option maxHeartbeats 1000000 in
theorem cloneI_any {A : Option Addr} {n c : Nat} {us : List Value} {W : World} (hl : us.length = n * 1) (hsrc : ∀ j u, us[j]? = some u → ∃ ad : Addr, A = some ad ∧ W.cell? (ad.add j) = some u) (h1 : ∀ u ∈ us, u.oneCell' = true) (hlt : ∀ ad, us ≠ [] → A = some ad → ad.block < W.heap.size) (hn : n ≤ 900000000) :
    Calls Tryz.prog 151 #[.slice A n c] W (Cloned 3 1 W n us) := by
  have q0 := slice_nil_eq Tryz.underlying60 A n c W
  cases A with
  | none =>
    have hu : us = [] := by
      cases us with
      | nil => rfl
      | cons u l => obtain ⟨ad, e, _⟩ := hsrc 0 u rfl; cases e
    subst hu
    obtain rfl : n = 0 := by simp only [List.length_nil] at hl; omega
    rw [show (none : Option Addr).isNone = true from rfl] at q0
    clear hsrc h1 hlt hl
    go_enter Tryz.func151, Tryz.ntmps151
    go_wp2
    go_ret
    exact ⟨_, rfl, OwnAt.nil_ _ _ _, Below.refl _ _, fun g h => by simp [Value.ownBlock] at h⟩
  | some a =>
    rw [show (some a : Option Addr).isNone = false from rfl] at q0
    have Hsrc := Lib.hid (show ∀ j u, us[j]? = some u → ∃ ad : Addr, (some a : Option Addr) = some ad ∧ (W.alloc (.cells #[] 3)).cell? (ad.add j) = some u from fun j u hu => by
      obtain ⟨ad, e, hc⟩ := hsrc j u hu
      cases e
      refine ⟨a, rfl, ?_⟩
      have hb : a.block < W.heap.size := hlt a (fun e => by rw [e] at hu; simp at hu) rfl
      have hbl : (a.add j).block = a.block := by unfold Addr.add; split <;> rfl
      unfold World.cell? at hc ⊢
      rw [Below.heap_alloc W _ _ (by rw [hbl]; exact hb)]
      exact hc)
    have H1 := Lib.hid h1
    have Hl := Lib.hid hl
    clear hsrc h1 hlt hl
    have hn2 : 0 + n ≤ 1000000000 := by omega
    go_enter Tryz.func151, Tryz.ntmps151
    go_wp2_with (at_builtin; refine wpList_append_src _ rfl (.tmp 5) (.tmp 6) 60 rfl 3 (.int .i64 0) 1 8 Tryz.underlying60 infoInt rfl (by decide) (.slice (some ⟨W.heap.size, 0, none⟩) 0 0) 0 [] rfl (ownAt_empty W 3 1) (some a) n c us rfl Hl.out Hsrc.out H1.out hn2 (by decide) ?_; intro v' w3 hown' hgr hat; have Hown := Lib.hid hown'; have Hgr := Lib.hid hgr; have Hat := Lib.hid hat; clear hown' hgr hat)
    go_ret
    have hb : Below W.heap.size W (W.alloc (.cells #[] 3)) := (Below.refl _ _).alloc (Nat.le_refl _) _
    refine ⟨v', rfl, ?_, hb.grown Hgr.out hb.size (fun g hg => by simp [Value.ownBlock] at hg; omega), fun g hg => ?_⟩
    · have := Hown.out
      rw [Nat.zero_add, List.nil_append] at this
      exact this
    · rcases Hat.out with e | e
      · rw [e] at hg; simp [Value.ownBlock] at hg; omega
      · rw [e] at hg; simp at hg; omega

theorem cloneI_sl {A : Option Addr} {n c : Nat} {xs : List Int} {W : World} (h : SlAt (IntR .i64) W A n xs) (hn : n ≤ 900000000) :
    Calls Tryz.prog 151 #[.slice A n c] W (Cloned 3 1 W n (xs.map (Value.int .i64))) := by
  obtain ⟨us, h1, h2, h3⟩ := h.cells
  have hus : us = xs.map (Value.int .i64) := by
    have hl := h.len
    apply List.ext_getElem?
    intro i
    rw [List.getElem?_map]
    cases e : us[i]? with
    | none =>
      rw [List.getElem?_eq_none_iff] at e
      rw [List.getElem?_eq_none (by omega)]; rfl
    | some u =>
      have hi : i < xs.length := by rw [hl, ← h1]; exact (List.getElem?_eq_some_iff.1 e).1
      rw [List.getElem?_eq_getElem hi]
      exact congrArg some (h3 i _ u (List.getElem?_eq_getElem hi) e)
  rw [← hus]
  refine cloneI_any (by rw [h1, Nat.mul_one]) h2 (fun u hu => ?_) (fun ad hne e => ?_) hn
  · rw [hus] at hu
    obtain ⟨x, _, rfl⟩ := List.mem_map.1 hu
    rfl
  · have hl := h.len
    have : 0 < n := by
      rw [← h1]; exact List.length_pos_iff.2 hne
    obtain ⟨x, b, off, u, _, e', hb, _⟩ := h.at_ this
    rw [e] at e'
    cases e'
    exact hb
end Go.Proofs.YtbiopedpceddeaaGreatDoor
end
section
namespace Go.Proofs.YtbiopedpceddeaaGreatDoor
open Go.RowKit
set_option linter.unusedVariables false
set_option linter.unusedSimpArgs false

/-- what stays of nodes while others are made -/
structure NdRel (B : Nat) (R : World → List Value → T.Nd → Prop) : Prop where
  form : ∀ {w us x}, R w us x → NdR w us x
  below : ∀ {w w' us x}, R w us x → Below w.heap.size w w' → R w' us x
  grown : ∀ {w w' us x} {row : Option Nat}, R w us x → w.grownBy w' row → (∀ g, row = some g → B ≤ g ∧ ∃ cur fr, w.heap[g]? = some (.cells cur 62 fr)) → R w' us x

/-- The slice v, of the call's own, holds these nodes; its array lies at B or above. -/
def OwnR (R : World → List Value → T.Nd → Prop) (B : Nat) (w : World) (v : Value) (nds : List T.Nd) : Prop :=
  ∃ cells, OwnAt w 62 5 v nds.length cells ∧ (∀ (k : Nat) (x : T.Nd), nds[k]? = some x → R w ((cells.drop (k * 5)).take 5) x) ∧ ∀ g, v.ownBlock = some g → B ≤ g

section
variable {R : World → List Value → T.Nd → Prop} {B : Nat} {w w' : World} {v : Value} {nds : List T.Nd}

theorem OwnR.nil_ (R : World → List Value → T.Nd → Prop) (B : Nat) (w : World) : OwnR R B w (.slice none 0 0) [] := ⟨[], OwnAt.nil_ _ _ _, fun k x h => by simp at h, fun g h => by simp [Value.ownBlock] at h⟩

theorem OwnR.form (h : OwnR R B w v nds) : ∃ A c, v = .slice A nds.length c := by
  obtain ⟨cells, h1, _⟩ := h
  exact h1.form

theorem OwnR.below (hR : NdRel B R) (h : OwnR R B w v nds) (hb : Below w.heap.size w w') : OwnR R B w' v nds := by
  obtain ⟨cells, h1, h2, h3⟩ := h
  exact ⟨cells, h1.below hb h1.lt, fun k x hx => hR.below (h2 k x hx) hb, h3⟩

theorem OwnR.stAt (hR : NdRel B R) {A : Option Addr} {n c : Nat} (h : OwnR R B w (.slice A n c) nds) (hn : nds.length = n) : StAt 5 NdR w A n nds := by
  obtain ⟨cells, h1, h2, h3⟩ := h
  rw [hn] at h1
  exact h1.stAt hn fun k x hx => hR.form (h2 k x hx)

theorem OwnR.row (h : OwnR R B w v nds) : ∀ g, v.ownBlock = some g → B ≤ g ∧ ∃ cur fr, w.heap[g]? = some (.cells cur 62 fr) := by
  obtain ⟨cells, h1, h2, h3⟩ := h
  intro g hg
  refine ⟨h3 g hg, ?_⟩
  rcases h1.2 with ⟨rfl, _⟩ | ⟨g', off, cap, cur, rfl, hcur, _⟩
  · simp [Value.ownBlock] at hg
  · simp [Value.ownBlock] at hg
    subst hg
    exact ⟨cur, _, hcur⟩
end

/-- 'append(out, x)' of one node: the translation lays x in a new block first -/
theorem wpList_append_nodeR {R : World → List Value → T.Nd → Prop} {B : Nat} (hR : NdRel B R) {w : World} {ops : Array Oper} {rest : List Oper} {o : Oper} {a : Act} {Q : Exit → Act → World → Prop} (hgd : o.guard = none) (sx x : Operand)
    (ho : o.op = .call { callee := .builtin .append, args := #[sx, x], argTypes := #[22, 22] })
    (v : Value) (nds : List T.Nd) (hs : a.eval sx = v) (hown : OwnR R B w v nds) (us : List Value) (nd : T.Nd) (hnd : R w us nd) (p : Nat) (hp : p = w.heap.size)
    (hx : a.eval x = .slice (some ⟨p, 0, none⟩) 1 1) (hn : nds.length ≤ 900000) (hB : B ≤ w.heap.size)
    (h : ∀ v' w', OwnR R B w' v' (nds ++ [nd]) → (∀ w0, Below B w0 w → Below B w0 w') → wpList Tryz.prog ops Q rest (a.put o.dst v') w') :
    wpList Tryz.prog ops Q (o :: rest) a (w.alloc (.cells us.toArray 62)) := by
  subst hp
  have hl : us.length = 5 := by obtain ⟨A, c, rfl, _⟩ := hR.form hnd; rfl
  have h1' : ∀ u ∈ us, u.oneCell' = true := by obtain ⟨A, c, rfl, _⟩ := hR.form hnd; exact ndC_one _ _ _
  have hba : Below w.heap.size w (w.alloc (.cells us.toArray 62)) := (Below.refl _ _).alloc (Nat.le_refl _) _
  obtain ⟨cells, h1, h2, h3⟩ := id hown
  have hrow := (hown.below hR hba).row
  have hcl := h1.1
  refine wpList_append_src _ hgd sx x 22 ho 62 _ 5 56 Tryz.underlying22 infoNode rfl (by decide) v nds.length cells hs (h1.below hba h1.lt) _ 1 1 us hx (by rw [hl]) (src_new w us 62) h1' (by omega) (by decide) ?_
  intro v' w' hown' hgr hat
  refine h v' w' ⟨cells ++ us, by rw [List.length_append]; exact hown', ?_, ?_⟩ ?_
  · intro k y hy
    rcases Nat.lt_or_ge k nds.length with hk | hk
    · rw [List.getElem?_append_left hk] at hy
      have e : ((cells ++ us).drop (k * 5)).take 5 = (cells.drop (k * 5)).take 5 := by
        rw [List.drop_append_of_le_length (by omega), List.take_append_of_le_length (by rw [List.length_drop]; omega)]
      rw [e]
      exact hR.grown (hR.below (h2 k y hy) hba) hgr hrow
    · rw [List.getElem?_append_right hk] at hy
      have hk0 : k = nds.length := by
        rcases Nat.eq_zero_or_pos (k - nds.length) with e | e
        · omega
        · rw [List.getElem?_eq_none (by simp; omega)] at hy; cases hy
      subst hk0
      simp at hy
      subst hy
      have e : ((cells ++ us).drop (nds.length * 5)).take 5 = us := by
        rw [← hcl, List.drop_left, List.take_of_length_le (by omega)]
      rw [e]
      exact hR.grown (hR.below hnd hba) hgr hrow
  · intro g hg
    rcases hat with e | e
    · exact h3 g (by rw [← e]; exact hg)
    · rw [e] at hg
      simp at hg
      omega
  · intro w0 hw0
    exact (hw0.alloc hB _).grown hgr (by simp; omega) h3

/-- nodes in new memory: their operands lie in new blocks of numbers -/
def NdF (B : Nat) (w : World) (us : List Value) (x : T.Nd) : Prop :=
  ∃ A c, us = ndC x A c ∧ OwnAt w 3 1 (.slice A x.args.length c) x.args.length (x.args.map (Value.int .i64)) ∧ 0 ≤ x.imm ∧ x.imm < 4294967296 ∧ ∀ g, (Value.slice A x.args.length c).ownBlock = some g → B ≤ g

theorem ndF_rel (B : Nat) : NdRel B (NdF B) := by
  constructor
  · rintro w us x ⟨A, c, h1, h2, h3, h4, _⟩
    exact ⟨A, c, h1, h2.slInts, h3, h4⟩
  · rintro w w' us x ⟨A, c, h1, h2, h3, h4, h5⟩ hb
    exact ⟨A, c, h1, h2.below hb h2.lt, h3, h4, h5⟩
  · rintro w w' us x row ⟨A, c, h1, h2, h3, h4, h5⟩ hg hr
    refine ⟨A, c, h1, h2.kept hg ?_, h3, h4, h5⟩
    rcases e : (Value.slice A x.args.length c).ownBlock with _ | g
    · exact .inl rfl
    · refine .inr fun e' => ?_
      obtain ⟨_, cur, fr, hc⟩ := hr g e'.symm
      rcases h2.2 with ⟨e1, _⟩ | ⟨g', off, cap, cur', e1, hc', _⟩
      · rw [e1] at e; simp [Value.ownBlock] at e
      · rw [e1] at e
        simp [Value.ownBlock] at e
        subst e
        rw [hc] at hc'
        injection hc' with hc'
        injection hc' with _ hc' _
        exact absurd hc' (by decide)
end Go.Proofs.YtbiopedpceddeaaGreatDoor
end
section
namespace Go.Proofs.YtbiopedpceddeaaGreatDoor
open Go.RowKit
set_option linter.unusedVariables false
set_option linter.unusedSimpArgs false

theorem take_next {α : Type} {l : List α} {j : Nat} {x : α} (h : l[j]? = some x) : l.take (j + 1) = l.take j ++ [x] := by
  rw [List.take_add_one, h]; rfl

set_option maxRecDepth 100000 in
set_option maxHeartbeats 4000000 in
theorem gcopied_any {t : List T.Nd} {n ct : Nat} {At : Option Addr} {W : World} (hT : StAt 5 NdR W At n t) (hn : n ≤ 900000) (ha : ∀ x ∈ t, x.args.length ≤ 900000) :
    Calls Tryz.prog 96 #[.slice At n ct] W fun e W' => ∃ v, e = .returned v ∧ OwnR (NdF W.heap.size) W.heap.size W' v t ∧ Below W.heap.size W W' := by
  have hl := hT.len
  have HT := Lib.hid hT
  have Ha := Lib.hid ha
  have Hl := Lib.hid hl
  clear hT ha hl
  go_enter Tryz.func96, Tryz.ntmps96
  go_wp2
  go_loopg [8, 3] (n + 1) (fun gg i v wr => ∃ (j : Nat), j ≤ n ∧ i = .int .i64 (j : Int) ∧ gg + j = n + 1 ∧ Hid (Below W.heap.size W wr) ∧ Hid (OwnR (NdF W.heap.size) W.heap.size wr v (t.take j)))
  case atStart => exact ⟨0, Nat.zero_le _, rfl, rfl, Lib.hid (Below.refl _ _), Lib.hid (OwnR.nil_ _ _ _)⟩
  case round =>
    obtain ⟨j, hj, rfl, hgk, Hbw, Hown⟩ := hrel
    have Hgk := Lib.hid hgk; clear hgk
    obtain ⟨Av, cv, hv⟩ := Hown.out.form
    have hlj : (t.take j).length = j := by rw [List.length_take, Hl.out]; omega
    rw [hlj] at hv
    subst hv
    by_cases hjn : j < n
    · obtain ⟨x, b, off, A, c, hx, rfl, hb, h0, h1, h2, h3, h4, hs, i0, i1⟩ := nd_cells HT.out hjn
      have hbel := Hbw.out
      have k0 := (hbel.cell (p := ⟨b, off + j * 5, none⟩) hb).trans h0
      have k1 := (hbel.cell (p := ⟨b, off + j * 5 + 1, none⟩) hb).trans h1
      have k2 := (hbel.cell (p := ⟨b, off + j * 5 + 2, none⟩) hb).trans h2
      have k3 := (hbel.cell (p := ⟨b, off + j * 5 + 3, none⟩) hb).trans h3
      have k4 := (hbel.cell (p := ⟨b, off + j * 5 + 4, none⟩) hb).trans h4
      obtain ⟨w1, hw1⟩ : ∃ w1, w1 = wr.alloc (.cells #[.int .i64 x.op, .int .i64 x.w, .int .i64 x.fl, .slice A x.args.length c, .int .u32 x.imm] 62) := ⟨_, rfl⟩
      have hb1 : Below wr.heap.size wr w1 := by rw [hw1]; exact (Below.refl _ _).alloc (Nat.le_refl _) _
      have hr1 : w1.heap[wr.heap.size]? = some (.cells #[.int .i64 x.op, .int .i64 x.w, .int .i64 x.fl, .slice A x.args.length c, .int .u32 x.imm] 62 (0, 0)) := by rw [hw1]; exact heap_alloc_new wr _
      have Hcl := Lib.hid (cloneI_sl (c := c) ((hs.below (monoInt _) hbel).below (monoInt _) (hb1.mono (Nat.le_refl _))) (by have := Ha.out x (List.mem_of_getElem? hx); omega))
      have Hx := Lib.hid hx
      have Hi := Lib.hid (show 0 ≤ x.imm ∧ x.imm < 4294967296 from ⟨i0, i1⟩)
      have Hb1 := Lib.hid hb1
      have Hr1 := Lib.hid hr1
      have Hsz1 := Lib.hid (show w1.heap.size = wr.heap.size + 1 from by rw [hw1]; simp)
      clear hx h0 h1 h2 h3 h4 hb hs i0 i1 hbel hb1 hr1
      go_wp2_with fail
      rw [← hw1]
      clear hw1
      (with_reducible refine Hcl.out.mono ?_)
      rintro e w2 ⟨v2, rfl, hown2, hb2, hv2⟩
      obtain ⟨A2, c2, rfl⟩ := hown2.form
      have hr2 := row_step (Lib.hid hb2) Hr1.out
      have n3 : w2.cell? ⟨wr.heap.size, 3, none⟩ = some (.slice A x.args.length c) := by rw [cell_of_row _ _ _ _ _ (0, 0) hr2]; rfl
      have nf : w2.frozen? ⟨wr.heap.size, 3, none⟩ = false := frozen_row hr2 _
      have hr3 := heap_setCell_same w2 wr.heap.size 3 _ _ (.slice A2 x.args.length c2) hr2
      obtain ⟨m0, m1, m2, m3, m4⟩ := nd5_cells (show (w2.setCell ⟨wr.heap.size, 3, none⟩ (.slice A2 x.args.length c2)).heap[wr.heap.size]? = some (.cells #[.int .i64 x.op, .int .i64 x.w, .int .i64 x.fl, .slice A2 x.args.length c2, .int .u32 x.imm] 62 (0, 0)) from hr3)
      have hB3 : Below wr.heap.size wr (w2.setCell ⟨wr.heap.size, 3, none⟩ (.slice A2 x.args.length c2)) := (Hb1.out.trans (hb2.mono (by rw [Hsz1.out]; omega))).setCell (p := ⟨wr.heap.size, 3, none⟩) (Nat.le_refl _) _
      have hsW := Hbw.out.size
      have hsz := Hsz1.out
      have Hnd := Lib.hid (show NdF W.heap.size (w2.setCell ⟨wr.heap.size, 3, none⟩ (.slice A2 x.args.length c2)) (ndC x A2 c2) x from by
        refine ⟨A2, c2, rfl, hown2.setCell (p := ⟨wr.heap.size, 3, none⟩) (fun e => ?_) _, Hi.out.1, Hi.out.2, fun g hg => ?_⟩
        · have := hv2 _ e
          simp only at this
          omega
        · have := hv2 g hg
          omega)
      have Hown3 := Lib.hid (Hown.out.below (ndF_rel _) hB3)
      have HB3 := Lib.hid (Hbw.out.trans (hB3.mono hsW))
      have hsz3 : W.heap.size ≤ (w2.setCell ⟨wr.heap.size, 3, none⟩ (.slice A2 x.args.length c2)).heap.size := HB3.out.size
      clear hown2 hb2 hv2 hr2 hr3 hB3 hsW hsz
      go_wp2_with (at_builtin; refine wpList_append_nodeR (ndF_rel W.heap.size) rfl (.tmp 16) (.tmp 18) rfl _ (t.take j) rfl Hown3.out (ndC x A2 c2) x Hnd.out w2.heap.size (by simp) rfl (by omega) hsz3 ?_; intro v' w3 hown' hbel'; have Hown' := Lib.hid hown'; have Hb' := Lib.hid (hbel' _ HB3.out); clear hown' hbel')
      go_roundg (gk - 1)
      case measure => have := Hgk.out; omega
      case rel =>
        have := Hgk.out
        exact ⟨j + 1, by omega, by go_num, by omega, Hb', Lib.hid (by rw [take_next Hx.out]; exact Hown'.out)⟩
    · obtain rfl : j = n := by omega
      have e : t.take j = t := List.take_of_length_le (by rw [Hl.out]; exact Nat.le_refl _)
      rw [e] at Hown
      go_wp2
      go_ret
      exact ⟨_, rfl, Hown.out, Hbw.out⟩
end Go.Proofs.YtbiopedpceddeaaGreatDoor
end
