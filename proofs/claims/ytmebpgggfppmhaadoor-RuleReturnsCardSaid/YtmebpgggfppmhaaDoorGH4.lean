/- Plain: a rule makes its right side of its left side. -/
import Derived.Test.YtmebpgggfppmhaaDoorGH3
set_option linter.unusedVariables false
set_option linter.unusedSimpArgs false
section
namespace Go.Proofs.YtmebpgggfppmhaaDoor
set_option linter.unusedVariables false
set_option linter.unusedSimpArgs false
namespace R
open T (Nd F)

/-- a variable at a width, as a tree -/
def varT (w i : Int) : F := .cons 33 w 0 i .nil .nil
/-- what is bound is what was put in -/
structure Con (w : Int) (hs : List Int) (s : St) : Prop where
  v : ∀ i f, s.v i = some f → f = varT w i
  h : ∀ i n, s.h i = some n → n = hs.getD i.toNat 0
theorem con_none (w : Int) (hs : List Int) : Con w hs St.none := ⟨(fun i f h => by cases h), (fun i f h => by cases h)⟩
theorem con_v {w : Int} {hs : List Int} {s : St} (c : Con w hs s) (i : Int) : ∃ s', bindV s i (varT w i) = some s' ∧ Con w hs s' := by
  unfold bindV
  cases e : s.v i with
  | none =>
    refine ⟨_, rfl, fun j f hj => ?_, c.h⟩
    unfold St.setV at hj
    dsimp only at hj
    split at hj
    · rename_i e2; subst e2; injection hj with hj; exact hj.symm
    · exact c.v j f hj
  | some g =>
    have := c.v i g e
    subst this
    exact ⟨s, by simp, c⟩
theorem con_h {w : Int} {hs : List Int} {s : St} (c : Con w hs s) (i : Int) : ∃ s', bindH s i (hs.getD i.toNat 0) = some s' ∧ Con w hs s' := by
  unfold bindH
  cases e : s.h i with
  | none =>
    refine ⟨_, rfl, c.v, fun j n hj => ?_⟩
    unfold St.setH at hj
    dsimp only at hj
    split at hj
    · rename_i e2; subst e2; injection hj with hj; exact hj.symm
    · exact c.h j n hj
  | some g =>
    have := c.h i g e
    subst this
    exact ⟨s, by simp, c⟩

theorem rep_cons {t : List Nd} {a : Int} {la : List Int} {g : F} (r : T.Rep t (a :: la) g) : ∃ x kids rest, 0 ≤ a ∧ t[a.toNat]? = some x ∧ T.Rep t x.args kids ∧ T.Rep t la rest ∧ g = .cons x.op x.w x.fl x.imm kids rest := by
  cases r with
  | cons h0 hx hk hr => exact ⟨_, _, _, h0, hx, hk, hr, rfl⟩
theorem rep_nil {t : List Nd} {g : F} (r : T.Rep t [] g) : g = .nil := by cases r; rfl

theorem flOk33 {fl : Int} (h : flOk 33 fl = true) : fl = 0 := by
  unfold flOk at h
  simpa using h
theorem inst1_op {p : List Nd} {w : Int} {hs : List Int} {x : Nd} (h1 : x.op ≠ 34) (h2 : x.op ≠ 35) : (inst1 p w hs x).op = x.op ∧ (inst1 p w hs x).fl = x.fl ∧ (inst1 p w hs x).args = x.args := by
  unfold inst1
  rw [if_neg h1, if_neg h2]
  split
  · rename_i h; exact ⟨h.1.symm, rfl, rfl⟩
  · exact ⟨rfl, rfl, rfl⟩
theorem pnode_left {p : List Nd} {k : Nat} {x : Nd} (h : pnode p false k x = true) : x.op ≠ 35 := fun e => by
  unfold pnode at h
  simp only [Bool.and_eq_true] at h
  have h := h.2
  unfold pimmOk at h
  rw [if_neg (by omega), if_neg (by omega), if_pos e] at h
  simp at h
theorem inst1_imm {p : List Nd} {right : Bool} {w : Int} {hs : List Int} {k : Nat} {x : Nd} (h : pnode p right k x = true) (h0 : 0 ≤ x.imm) (h1 : x.op ≠ 34) (h2 : x.op ≠ 35) : (inst1 p w hs x).imm = immAt x.op (wide w x.w) x.imm := by
  unfold inst1 immAt wide
  rw [if_neg h1, if_neg h2]
  by_cases h3 : x.op = 0
  · by_cases h4 : x.w = 0
    · rw [if_pos ⟨h3, h4⟩, if_pos h3, if_pos h4]
    · rw [if_neg (fun e => h4 e.2), if_pos h3, if_neg h4]
      have := B.isW_iff.1 (pnode_const h h3 h4)
      exact (Int.emod_eq_of_lt h0 this.2.2).symm
  · rw [if_neg (fun e => h3 e.1), if_neg h3]

theorem fit_self {p : List Nd} {w : Int} {hs : List Int} (hp : ∀ k x, p[k]? = some x → pnode p false k x = true) (h0 : ∀ x ∈ p, 0 ≤ x.imm) {la : List Int} {f : F} (r : T.Rep p la f) :
    ∀ {g : F}, T.Rep (inst p w hs) la g → ∀ {s : St}, Con w hs s → ∃ s', fit w f g s = some s' ∧ Con w hs s' := by
  induction r with
  | nil =>
    intro g hg s c
    rw [rep_nil hg]
    exact ⟨s, rfl, c⟩
  | @cons a la x kids rest ha hx hk hr ih1 ih2 =>
    intro g hg s c
    obtain ⟨y, k2, r2, _, hy, hk2, hr2, rfl⟩ := rep_cons hg
    obtain ⟨x', hx', rfl⟩ := inst_at hy
    rw [hx] at hx'
    obtain rfl := Option.some.inj hx'
    have hn := hp _ x hx
    have hi := h0 x (List.mem_of_getElem? hx)
    have h35 := pnode_left hn
    unfold fit
    dsimp only
    rw [inst1_w, show wide w x.w = (if x.w = 0 then w else x.w) from rfl, if_neg (by simp)]
    by_cases h33 : x.op = 33
    · rw [if_pos h33]
      have hl := pnode_leaf hn (.inl h33)
      have hw0 := pnode_bare hn (.inl h33)
      have hf0 := flOk33 (h33 ▸ pnode_flags hn)
      obtain ⟨e1, e2, e3⟩ := inst1_op (p := p) (w := w) (hs := hs) (x := x) (by omega) h35
      have e4 := inst1_imm (w := w) (hs := hs) hn hi (by omega) h35
      rw [e3, hl] at hk2
      rw [rep_nil hk2, e1, e2, e4, h33, hf0, hw0, if_pos rfl, show immAt 33 (wide w 0) x.imm = x.imm from rfl]
      obtain ⟨s1, b1, c1⟩ := con_v c x.imm
      rw [show F.cons 33 w 0 x.imm .nil .nil = varT w x.imm from rfl, b1]
      exact ih2 hr2 c1
    · rw [if_neg h33]
      by_cases h34 : x.op = 34
      · have hw0 := (pnode_hole hn h34).1
        have e1 : (inst1 p w hs x).op = 0 := by unfold inst1; rw [if_pos h34]
        have e2 : (inst1 p w hs x).imm = hs.getD x.imm.toNat 0 := by unfold inst1; rw [if_pos h34]
        rw [if_pos h34, e1, e2, if_pos rfl]
        obtain ⟨s1, b1, c1⟩ := con_h c x.imm
        rw [b1]
        exact ih2 hr2 c1
      · rw [if_neg h34]
        obtain ⟨e1, e2, e3⟩ := inst1_op (p := p) (w := w) (hs := hs) (x := x) h34 h35
        have e4 := inst1_imm (w := w) (hs := hs) hn hi h34 h35
        rw [e3] at hk2
        rw [e1, e2, e4, if_neg]
        · obtain ⟨s1, b1, c1⟩ := ih1 hk2 c
          rw [b1]
          exact ih2 hr2 c1
        · rintro (h | h | h | h)
          · exact h rfl
          · exact h rfl
          · exact h rfl
          · rw [T.Rep.len hk, T.Rep.len hk2] at h; exact h rfl

theorem sub_self {p : List Nd} {right : Bool} {w : Int} {hs : List Int} {b : Int → F} (hp : ∀ k x, p[k]? = some x → pnode p right k x = true) (hb : ∀ x ∈ p, x.op = 33 → b x.imm = varT w x.imm) {la : List Int} {f : F} (r : T.Rep (inst p w hs) la f) : sub b f = f := by
  induction r with
  | nil => rfl
  | @cons a la y kids rest ha hy hk hr ih1 ih2 =>
    obtain ⟨x, hx, rfl⟩ := inst_at hy
    have hn := hp _ x hx
    unfold sub
    by_cases h33 : (inst1 p w hs x).op = 33
    · obtain ⟨o, e3, e4⟩ := inst1_var h33
      have hl := pnode_leaf hn (.inl o)
      have hw0 := pnode_bare hn (.inl o)
      have hf0 := flOk33 (o ▸ pnode_flags hn)
      obtain ⟨e1, e2, _⟩ := inst1_op (p := p) (w := w) (hs := hs) (x := x) (by omega) (by omega)
      rw [e3, hl] at hk
      have hkn := rep_nil hk
      subst hkn
      rw [if_pos h33, e4, hb x (List.mem_of_getElem? hx) o, ih2, h33, e2, hf0, inst1_w, hw0]
      rfl
    · rw [if_neg h33, ih1, ih2]

theorem occ_bound {p : List Nd} (ho : T.Ord p) (hl : 1 ≤ p.length) {f : F} (hf : T.Rep p [((p.length : Int) - 1)] f) {o i : Int} (h : occ p o i = true) : occF f o i := by
  rw [occ_iff ho (by omega), ← occF_from hf] at h
  exact h

theorem cond_same {w : Int} {hs hs' : List Int} {c : Cd} (h : hs'.getD c.hole.toNat 0 = hs.getD c.hole.toNat 0) : cond w hs' c = cond w hs c := by
  unfold cond
  rw [h]

theorem hs_getD (s : St) {i : Int} (h : i = 0 ∨ i = 1) : s.hs.getD i.toNat 0 = (s.h i).getD 0 := by
  unfold St.hs
  rcases h with rfl | rfl <;> rfl

theorem rew_self {r : Rl} {w : Int} {hs : List Int} (hm : mts r w hs = true) (h0 : ∀ x ∈ hs, 0 ≤ x) (hl0 : ∀ x ∈ r.left, 0 ≤ x.imm) (hr0 : ∀ x ∈ r.right, 0 ≤ x.imm) (hroot : rootW r.left = 0) :
    serr r w hs = 0 ∧ rew r (inst r.left w hs) = (T.canon (T.root (inst r.right w hs)), true, 0) := by
  have hse : serr r w hs = 0 := by
    unfold mts at hm
    by_cases e : serr r w hs = 0
    · exact e
    · rw [if_neg e] at hm; cases hm
  refine ⟨hse, ?_⟩
  have hpre : r.pre.all (cond w hs) = true := by
    unfold mts at hm
    rw [if_pos hse] at hm
    exact hm
  obtain ⟨hrok, hhs⟩ := serr_ok hse
  obtain ⟨hw, hh⟩ := hsOk_iff hhs h0
  have hwd := B.isWd_iff.1 hw
  have hfv := inst_valid hw hh hrok.lp hrok.lt hl0 hrok.lpos hrok.llen
  have hrv : rvalid r = 0 := by
    unfold serr at hse
    split at hse
    · rename_i h; exact absurd hse h
    · rename_i h; simpa using h
  have herr : rerr r (inst r.left w hs) = 0 := by unfold rerr; rw [if_neg (by simpa using hrv)]; exact hfv
  have hol := pnode_ord hrok.lp
  have hoi : T.Ord (inst r.left w hs) := inst_ord hol
  have hfp := T.root_rep hol hrok.lpos
  have hft := T.root_rep hoi (by rw [inst_len]; exact hrok.lpos)
  have hmw : mtw r (inst r.left w hs) (T.root r.left) (T.root (inst r.left w hs)) = w := by
    unfold mtw
    rw [if_neg (by rw [hroot]; decide)]
    unfold rootW at hroot ⊢
    rw [inst_len, inst_getD (by have := hrok.lpos; omega), hroot]
    rfl
  obtain ⟨s, hs1, hc⟩ := fit_self (w := w) (hs := hs) hrok.lp hl0 hfp (by rw [inst_len] at hft; exact hft) (con_none w hs)
  have hleaf := rep_leaf2 (fun z hz => by
    obtain ⟨k, hk⟩ := List.mem_iff_getElem?.1 hz
    exact pnode_leaf (hrok.lp k z hk)) hfp
  obtain ⟨_, hbv, hbh⟩ := fit_bound _ _ hleaf _ _ hs1
  have hv : ∀ i, occ r.left 33 i = true → s.v i = some (varT w i) := fun i hi => by
    have := hbv i (occ_bound hol hrok.lpos hfp hi)
    cases e : s.v i with
    | none => exact absurd e this
    | some f => rw [hc.v i f e]
  have hhole : ∀ i, occ r.left 34 i = true → (s.h i).getD 0 = hs.getD i.toNat 0 := fun i hi => by
    have := hbh i (occ_bound hol hrok.lpos hfp hi)
    cases e : s.h i with
    | none => exact absurd e this
    | some n => rw [hc.h i n e]; rfl
  have hpre2 : r.pre.all (cond w s.hs) = true := by
    rw [List.all_eq_true] at hpre ⊢
    intro c hcm
    rw [cond_same, hpre c hcm]
    have hcd := List.all_eq_true.1 hrok.cd c hcm
    unfold cdOk at hcd
    simp only [Bool.and_eq_true, decide_eq_true_eq] at hcd
    rw [hs_getD s (by omega), hhole _ (hrok.cocc c hcm)]
  have hmres : mres r (inst r.left w hs) = some s := by
    unfold mres mtch mfit
    rw [hmw, if_pos (by omega), hs1]
    simp only [Option.bind_some, hpre2, if_true]
  have hinst : inst r.right w s.hs = inst r.right w hs := by
    have hget : ∀ x ∈ r.right, x.op = 34 → s.hs.getD x.imm.toNat 0 = hs.getD x.imm.toNat 0 := fun x hx ho => by
      obtain ⟨k, hk⟩ := List.mem_iff_getElem?.1 hx
      have h2 := (pnode_hole (hrok.rp k x hk) ho).2
      have h3 := hr0 x hx
      rw [hs_getD s (by omega), hhole _ (by have := hrok.occ x hx (.inr ho); rw [ho] at this; exact this)]
    unfold inst
    refine List.map_congr_left fun x hx => ?_
    obtain ⟨k, hk⟩ := List.mem_iff_getElem?.1 hx
    unfold inst1
    by_cases h34 : x.op = 34
    · rw [if_pos h34, if_pos h34, hget x hx h34]
    · rw [if_neg h34, if_neg h34]
      by_cases h35 : x.op = 35
      · obtain ⟨_, a, ha, hak, ho⟩ := pnode_trail (hrok.rp k x hk) h35
        have hal : a < r.right.length := by have := (List.getElem?_eq_some_iff.1 hk).1; omega
        rw [if_pos h35, if_pos h35]
        have e0 : (x.args.getD 0 0).toNat = a := by rw [ha]; simp
        have e5 : s.hs.getD (r.right.getD a default).imm.toNat 0 = hs.getD (r.right.getD a default).imm.toNat 0 := by
          have e6 : r.right.getD a default = r.right[a] := by rw [List.getD_eq_getElem?_getD, List.getElem?_eq_getElem hal]; rfl
          rw [e6] at ho ⊢
          exact hget _ (List.getElem_mem hal) ho
        rw [e0, e5]
      · rw [if_neg h35, if_neg h35]
  have hsub : rtree r (inst r.left w hs) s = T.root (inst r.right w hs) := by
    unfold rtree mw
    rw [hmw, hinst]
    refine sub_self hrok.rp (fun x hx ho => ?_) (T.root_rep (inst_ord (pnode_ord hrok.rp)) (by rw [inst_len]; exact hrok.rpos))
    have := hv x.imm (by have := hrok.occ x hx (.inl ho); rw [ho] at this; exact this)
    unfold St.tr
    rw [this]
    rfl
  unfold rew
  rw [if_neg (by rw [herr]; simp), hmres]
  dsimp only
  rw [hsub, if_neg]
  have h1 := T.canon_len (T.root_rep (inst_ord (w := w) (hs := hs) (pnode_ord hrok.rp)) (by rw [inst_len]; exact hrok.rpos))
  rw [inst_len] at h1
  have := hrok.rlen
  omega
end R
end Go.Proofs.YtmebpgggfppmhaaDoor
end
section
namespace Go.Proofs.YtmebpgggfppmhaaDoor
open Go.RowKit
set_option linter.unusedVariables false
set_option linter.unusedSimpArgs false

set_option maxRecDepth 100000 in
set_option maxHeartbeats 1000000 in
theorem ruleReturns_any {r : R.Rl} {w : Int} {hs : List Int} {nl cl nr cr np cp nh ch : Nat} {AL AR AP Ah : Option Addr} {W : World} (hR : RlAt W r nl nr np AL AR AP) (hH : SlAt (IntR .u32) W Ah nh hs) (h0 : ∀ x ∈ hs, 0 ≤ x ∧ x < 4294967296) (hT : TabAt W) :
    Calls Tryd.prog 9 #[.agg #[.slice AL nl cl, .slice AR nr cr, .slice AP np cp], .int .i64 w, .slice Ah nh ch] W fun e W' => e = .returned (.bool true) ∧ Below W.heap.size W W' := by
  have hleH := hH.le
  obtain ⟨W1, hW1⟩ : ∃ W1, W1 = W.alloc (.cells #[.slice AL nl cl, .slice AR nr cr, .slice AP np cp] 25) := ⟨_, rfl⟩
  have hb1 : Below W.heap.size W W1 := by rw [hW1]; exact (Below.refl _ _).alloc (Nat.le_refl _) _
  have hrow : W1.heap[W.heap.size]? = some (.cells #[.slice AL nl cl, .slice AR nr cr, .slice AP np cp] 25 (0, 0)) := by rw [hW1]; exact heap_alloc_new W _
  obtain ⟨c0, c1, c2, _⟩ := rl_cells hrow
  have Hrow := Lib.hid hrow
  have Hb1 := Lib.hid hb1
  have HT := Lib.hid (hT.below hb1)
  have HR1 := Lib.hid (hR.below hb1)
  have HH := Lib.hid (hH.below (monoInt _) hb1)
  have H0 := Lib.hid h0
  have Hlg := Lib.hid (rLong_any (cl := cl) (cr := cr) (cp := cp) HR1.out)
  have Hkn := Lib.hid (fun X (h : Below W1.heap.size W1 X) => known_any X (HT.out.below h))
  have HW1 := Lib.hid hW1
  obtain ⟨lg, hlg⟩ : ∃ lg, R.rlong r = lg := ⟨_, rfl⟩
  rw [hlg] at Hlg
  rw [hW1] at c0 c1 c2
  clear hR hH h0 hb1 hW1 hrow hlg hT
  cases lg with
  | true =>
    go_enter Tryd.func9, Tryd.ntmps9
    go_wp2_with fail
    rw [← HW1.out]
    (with_reducible refine Hlg.out.mono ?_)
    rintro e w2 ⟨rfl, hb2⟩
    have Hb2 := Lib.hid hb2
    clear hb2 c0 c1 c2
    go_wp2_with fail
    (with_reducible refine (Hkn.out _ Hb2.out).mono ?_)
    rintro e w3 ⟨rfl, hb3⟩
    have Hb3 := Lib.hid (Hb1.out.trans ((Hb2.out.trans (hb3.mono Hb2.out.size)).mono Hb1.out.size))
    clear hb3
    go_wp2
    go_ret
    exact ⟨rfl, Hb3.out⟩
  | false =>
    by_cases hn : 100 < nh
    · have q : decide (100 < (nh : Int)) = true := by simp; omega
      clear hn
      go_enter Tryd.func9, Tryd.ntmps9
      go_wp2_with fail
      rw [← HW1.out]
      (with_reducible refine Hlg.out.mono ?_)
      rintro e w2 ⟨rfl, hb2⟩
      have Hb2 := Lib.hid hb2
      clear hb2 c0 c1 c2
      go_wp2_with fail
      (with_reducible refine (Hkn.out _ Hb2.out).mono ?_)
      rintro e w3 ⟨rfl, hb3⟩
      have Hb3 := Lib.hid (Hb1.out.trans ((Hb2.out.trans (hb3.mono Hb2.out.size)).mono Hb1.out.size))
      clear hb3
      go_wp2
      go_ret
      exact ⟨rfl, Hb3.out⟩
    · have q : decide (100 < (nh : Int)) = false := by simp; omega
      clear hn
      obtain ⟨m, hm⟩ : ∃ m, R.mts r w hs = m := ⟨_, rfl⟩
      obtain ⟨er, her⟩ : ∃ er, R.serr r w hs = er := ⟨_, rfl⟩
      have Hg := Lib.hid (fun X (h : Below W1.heap.size W1 X) => gMeets_any (w := w) (cl := cl) (cr := cr) (cp := cp) (ch := ch) (HR1.out.below h) (HH.out.below (monoInt _) h) (fun x hx => (H0.out x hx).1))
      rw [hm, her] at Hg
      have Hrow2 := Lib.hid (fun (X : World) (h : Below W1.heap.size W1 X) => rl_cells ((h.block _ (Array.getElem?_eq_some_iff.1 Hrow.out).1).trans Hrow.out))
      cases m with
      | false =>
        clear hm
        by_cases he0 : er = 0
        · subst he0
          go_enter Tryd.func9, Tryd.ntmps9
          go_wp2_with fail
          rw [← HW1.out]
          (with_reducible refine Hlg.out.mono ?_)
          rintro e w2 ⟨rfl, hb2⟩
          have Hb2 := Lib.hid hb2
          obtain ⟨d0, d1, d2, _⟩ := Hrow2.out _ hb2
          clear hb2 c0 c1 c2
          go_wp2_with fail
          (with_reducible refine (Hg.out _ Hb2.out).mono ?_)
          rintro e w3 ⟨rfl, hb3⟩
          have Hb3 := Lib.hid (Hb2.out.trans (hb3.mono Hb2.out.size))
          clear hb3 d0 d1 d2
          go_wp2_with fail
          (with_reducible refine (Hkn.out _ Hb3.out).mono ?_)
          rintro e w9 ⟨rfl, hb9⟩
          have Hb9 := Lib.hid (Hb1.out.trans ((Hb3.out.trans (hb9.mono Hb3.out.size)).mono Hb1.out.size))
          clear hb9
          go_wp2
          go_ret
          exact ⟨rfl, Hb9.out⟩
        · have q0 : (er != 0) = true := by simpa using he0
          clear he0
          go_enter Tryd.func9, Tryd.ntmps9
          go_wp2_with fail
          rw [← HW1.out]
          (with_reducible refine Hlg.out.mono ?_)
          rintro e w2 ⟨rfl, hb2⟩
          have Hb2 := Lib.hid hb2
          obtain ⟨d0, d1, d2, _⟩ := Hrow2.out _ hb2
          clear hb2 c0 c1 c2
          go_wp2_with fail
          (with_reducible refine (Hg.out _ Hb2.out).mono ?_)
          rintro e w3 ⟨rfl, hb3⟩
          have Hb3 := Lib.hid (Hb2.out.trans (hb3.mono Hb2.out.size))
          clear hb3 d0 d1 d2
          go_wp2_with fail
          (with_reducible refine (Hkn.out _ Hb3.out).mono ?_)
          rintro e w9 ⟨rfl, hb9⟩
          have Hb9 := Lib.hid (Hb1.out.trans ((Hb3.out.trans (hb9.mono Hb3.out.size)).mono Hb1.out.size))
          clear hb9
          go_wp2
          go_ret
          exact ⟨rfl, Hb9.out⟩
      | true =>
        have hse : R.serr r w hs = 0 := by
          unfold R.mts at hm
          by_cases e : R.serr r w hs = 0
          · exact e
          · rw [if_neg e] at hm; cases hm
        rw [hse] at her
        subst her
        obtain ⟨hrok, hhs⟩ := R.serr_ok hse
        obtain ⟨ml, hml⟩ : ∃ ml, nl = ml + 1 := ⟨nl - 1, by have := hrok.lpos; have := HR1.out.sl.len; omega⟩
        obtain ⟨mr, hmr⟩ : ∃ mr, nr = mr + 1 := ⟨nr - 1, by have := hrok.rpos; have := HR1.out.sr.len; omega⟩
        subst hml hmr
        have hleL := HR1.out.sl.le
        obtain ⟨x, b, off, A, c, hx, hA, hb, _, x1, _, _, _, _, _, _⟩ := nd_cells HR1.out.sl (show ml < ml + 1 by omega)
        subst hA
        have hxw : R.rootW r.left = x.w := by
          unfold R.rootW
          rw [HR1.out.sl.len, Nat.add_sub_cancel, List.getD_eq_getElem?_getD, hx]
          rfl
        have HX1 := Lib.hid (fun (X : World) (h : Below W1.heap.size W1 X) => (h.cell (p := ⟨b, off + ml * 5 + 1, none⟩) hb).trans x1)
        clear hx x1 hb
        have ql : (((ml + 1 : Nat) : Int) == 0) = false := by simp; omega
        by_cases hw0 : x.w = 0
        rotate_left
        · have q0 : (x.w != 0) = true := by simpa using hw0
          clear hw0 hxw hrok hhs hse hm
          go_enter Tryd.func9, Tryd.ntmps9
          go_wp2_with fail
          rw [← HW1.out]
          (with_reducible refine Hlg.out.mono ?_)
          rintro e w2 ⟨rfl, hb2⟩
          have Hb2 := Lib.hid hb2
          obtain ⟨d0, d1, d2, _⟩ := Hrow2.out _ hb2
          clear hb2 c0 c1 c2
          go_wp2_with fail
          (with_reducible refine (Hg.out _ Hb2.out).mono ?_)
          rintro e w3 ⟨rfl, hb3⟩
          have Hb3 := Lib.hid (Hb2.out.trans (hb3.mono Hb2.out.size))
          obtain ⟨d0, d1, d2, _⟩ := Hrow2.out _ Hb3.out
          have x1 := HX1.out _ Hb3.out
          clear hb3
          go_wp2_with fail
          (with_reducible refine (Hkn.out _ Hb3.out).mono ?_)
          rintro e w9 ⟨rfl, hb9⟩
          have Hb9 := Lib.hid (Hb1.out.trans ((Hb3.out.trans (hb9.mono Hb3.out.size)).mono Hb1.out.size))
          clear hb9
          go_wp2
          go_ret
          exact ⟨rfl, Hb9.out⟩
        · have hsw := R.rew_self hm (fun x hx => (H0.out x hx).1) (nd_imm HR1.out.sl) (nd_imm HR1.out.sr) (hxw.trans hw0)
          have hok := R.sds_ok hse (fun x hx => (H0.out x hx).1) (nd_imm HR1.out.sl) (nd_imm HR1.out.sr)
          have hsds : R.sds r w hs = (R.inst r.left w hs, R.inst r.right w hs) := by unfold R.sds; rw [if_pos hse]
          rw [hsds] at hok
          have hrl := (R.inst_len r.left w hs).trans HR1.out.sl.len
          have hrr := (R.inst_len r.right w hs).trans HR1.out.sr.len
          have hord := (R.tok_of hok.2).ord
          have hsmall : ∀ z ∈ R.inst r.right w hs, z.args.length ≤ 3 := fun z hz => ((R.tok_of hok.2).at_ hz).2.2.2.2.1
          have hrep := T.root_rep hord (by rw [hrr]; omega)
          rw [hrr, show ((mr + 1 : Nat) : Int) - 1 = ((mr : Nat) : Int) by omega] at hrep
          have hflr := R.flr_ok hok.1
          obtain ⟨sl, hsl⟩ : ∃ s, R.inst r.left w hs = s := ⟨_, rfl⟩
          obtain ⟨sr, hsr⟩ : ∃ s, R.inst r.right w hs = s := ⟨_, rfl⟩
          rw [hsl] at hsw hsds hrl hflr
          rw [hsr] at hsw hsds hrr hord hrep hsmall
          obtain ⟨cn, hcn⟩ : ∃ s, T.canon (T.root sr) = s := ⟨_, rfl⟩
          rw [hcn] at hsw
          have Hsp := Lib.hid (show ∀ X e X', SidesPost X r w hs e X' → ∃ A1 k1 A2 k2, e = .returned (.tuple #[.slice A1 (ml + 1) k1, .slice A2 (mr + 1) k2, .int .i64 0]) ∧ OwnR (NdF X.heap.size) X.heap.size X' (.slice A1 (ml + 1) k1) sl ∧ OwnR (NdF X.heap.size) X.heap.size X' (.slice A2 (mr + 1) k2) sr ∧ Below X.heap.size X X' from fun X e X' ⟨v1, v2, h1, h2, h3, h4⟩ => by
            rw [hse] at h1
            rw [hsds] at h2 h3
            obtain ⟨A1, k1, e1⟩ := h2.form
            obtain ⟨A2, k2, e2⟩ := h3.form
            rw [hrl] at e1
            rw [hrr] at e2
            subst e1 e2
            exact ⟨A1, k1, A2, k2, h1, h2, h3, h4⟩)
          have Hrp := Lib.hid (show ∀ X e X', RewPost X r sl e X' → ∃ A3 k3, e = .returned (.tuple #[.slice A3 cn.length k3, .bool true, .int .i64 0]) ∧ OwnR (NdF X.heap.size) X.heap.size X' (.slice A3 cn.length k3) cn ∧ Below X.heap.size X X' from fun X e X' ⟨v1, h1, h2, h4⟩ => by
            rw [hsw.2] at h1 h2
            obtain ⟨A1, k1, rfl⟩ := h2.form
            exact ⟨A1, k1, h1, h2, h4⟩)
          have Hsd := Lib.hid (fun X (h : Below W1.heap.size W1 X) => gSides_any (w := w) (cl := cl) (cr := cr) (cp := cp) (ch := ch) (HR1.out.below h) (HH.out.below (monoInt _) h) (fun x hx => (H0.out x hx).1) (HT.out.below h))
          have Hrw := Lib.hid (fun X (h : Below W1.heap.size W1 X) (A1 : Option Addr) (k1 : Nat) (hs1 : StAt 5 NdR X A1 (ml + 1) sl) => gRewrite_any (cl := cl) (cr := cr) (cp := cp) (ct := k1) (HR1.out.below h) hs1 hflr (HT.out.below h))
          have Hsh := Lib.hid (fun X (A2 : Option Addr) (k2 : Nat) (hs2 : StAt 5 NdR X A2 (mr + 1) sr) => Shared_any (ct := k2) hs2 hord (by have := hs2.len; have := hrok.rlen; have := HR1.out.sr.len; omega) (fun x hx => by have := hsmall x hx; omega) (show mr < mr + 1 by omega) (T.root sr) hrep)
          rw [hcn] at Hsh
          have qm : (0 < ((mr + 1 : Nat) : Int)) = True := by simp
          have qmd : decide (0 < ((mr + 1 : Nat) : Int)) = true := by simp
          have hleR := HR1.out.sr.le
          clear hsw hok hsds hrl hrr hord hsmall hrep hflr hsl hsr hcn hxw hrok hhs hse hm
          go_enter Tryd.func9, Tryd.ntmps9
          go_wp2_with fail
          rw [← HW1.out]
          (with_reducible refine Hlg.out.mono ?_)
          rintro e w2 ⟨rfl, hb2⟩
          have Hb2 := Lib.hid hb2
          obtain ⟨d0, d1, d2, _⟩ := Hrow2.out _ hb2
          clear hb2 c0 c1 c2
          go_wp2_with fail
          (with_reducible refine (Hg.out _ Hb2.out).mono ?_)
          rintro e w3 ⟨rfl, hb3⟩
          have Hb3 := Lib.hid (Hb2.out.trans (hb3.mono Hb2.out.size))
          obtain ⟨d0, d1, d2, _⟩ := Hrow2.out _ Hb3.out
          have x1 := HX1.out _ Hb3.out
          rw [hw0] at x1
          clear hb3
          go_wp2_with fail
          (with_reducible refine (Hsd.out _ Hb3.out).mono ?_)
          intro e w4 hp4
          obtain ⟨A1, k1, A2, k2, rfl, hs1, hs2, hb4⟩ := Hsp.out _ _ _ hp4
          have Hb4 := Lib.hid (Hb3.out.trans (hb4.mono Hb3.out.size))
          obtain ⟨d0, d1, d2, _⟩ := Hrow2.out _ Hb4.out
          have Hs1 := Lib.hid (hs1.stAt (ndF_rel _) (by have := hs1.form; obtain ⟨_, _, e⟩ := this; injection e with _ e _; exact e.symm))
          have Hs2 := Lib.hid (hs2.stAt (ndF_rel _) (by have := hs2.form; obtain ⟨_, _, e⟩ := this; injection e with _ e _; exact e.symm))
          clear hb4 hp4 hs1 hs2 x1
          go_wp2_with fail
          (with_reducible refine (Hrw.out _ Hb4.out _ _ Hs1.out).mono ?_)
          intro e w5 hp5
          obtain ⟨A3, k3, rfl, hs3, hb5⟩ := Hrp.out _ _ _ hp5
          have Hb5 := Lib.hid (Hb4.out.trans (hb5.mono Hb4.out.size))
          have Hs3 := Lib.hid (hs3.stAt (ndF_rel _) rfl)
          have Hs4 := Lib.hid (Hs2.out.below monoNd hb5)
          clear hb5 hp5 hs3 d0 d1 d2
          go_wp2_with fail
          (with_reducible refine (Hsh.out _ _ _ Hs4.out).mono ?_)
          rintro e w6 ⟨v6, rfl, hs6, hb6⟩
          obtain ⟨A6, k6, rfl⟩ := hs6.form
          have Hb6 := Lib.hid (Hb5.out.trans (hb6.mono Hb5.out.size))
          have Hsm := Lib.hid (SameNodes_any (c := k3) (c' := k6) (Hs3.out.below monoNd hb6) (hs6.stAt (ndF_rel _) rfl))
          rw [decide_eq_true (rfl : cn = cn)] at Hsm
          clear hb6 hs6
          go_wp2_with fail
          (with_reducible refine Hsm.out.mono ?_)
          rintro e w7 ⟨rfl, hb7⟩
          have Hb7 := Lib.hid (Hb6.out.trans (hb7.mono Hb6.out.size))
          clear hb7
          go_wp2_with fail
          (with_reducible refine (Hkn.out _ Hb7.out).mono ?_)
          rintro e w9 ⟨rfl, hb9⟩
          have Hb9 := Lib.hid (Hb1.out.trans ((Hb7.out.trans (hb9.mono Hb7.out.size)).mono Hb1.out.size))
          clear hb9
          go_wp2
          go_ret
          exact ⟨rfl, Hb9.out⟩
end Go.Proofs.YtmebpgggfppmhaaDoor
end
