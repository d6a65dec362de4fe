/- Merged: QPlainEK, QJ15. -/
import Derived.Test.YtcmlmjbpdaecbaaGreatA33
import Derived.Test.YtcmlmjbpdaecbaaGreatA34
import Derived.Test.YtcmlmjbpdaecbaaGreatA35
set_option linter.unusedVariables false
set_option linter.unusedSimpArgs false
section
namespace Go.Proofs.YtcmlmjbpdaecbaaGreat
set_option linter.unusedVariables false
set_option linter.unusedSimpArgs false
namespace E
def Keys (s : Gr) : Prop := ∀ e ∈ s.es, can s.p e.1 = e.1
/-- what each of the two keeps to -/
structure Cln (s : Gr) : Prop where
  ok : s.Ok
  keys : Keys s
  vr : ∀ i, i < 4 → 0 ≤ s.vr.get i
/-- the program's graph and the reference's -/
structure Two (s r : Gr) : Prop where
  al : Alike s r
  s : Cln s
  r : Cln r
theorem Alike.roots {s r : Gr} (h : Alike s r) : E.roots s.p = E.roots r.p := by
  unfold E.roots
  rw [h.len]
  congr 1
  funext c
  rw [h.rt]
theorem Alike.count {s r : Gr} (h : Alike s r) : s.es.length = r.es.length := by
  have h1 := nodup_len_le (m := r.es.map Prod.fst) h.nd1 fun x hx => by
    obtain ⟨e, he, rfl⟩ := List.mem_map.1 hx
    obtain ⟨f, hf, e1, _⟩ := h.l e he
    exact List.mem_map.2 ⟨f, hf, e1⟩
  have h2 := nodup_len_le (m := s.es.map Prod.fst) h.nd2 fun x hx => by
    obtain ⟨e, he, rfl⟩ := List.mem_map.1 hx
    obtain ⟨f, hf, e1, _⟩ := h.back e he
    exact List.mem_map.2 ⟨f, hf, e1⟩
  simp only [List.length_map] at h1 h2
  omega
theorem Alike.nr {s r : Gr} (h : Alike s r) (x : Int) : E.nr s.p s.nm x = E.nr r.p r.nm x := by
  unfold E.nr
  rw [h.nm, h.rt]
theorem Alike.same {s r : Gr} (h : Alike s r) (x y : Int) : sameEnd s.p s.nm x y = sameEnd r.p r.nm x y := by
  unfold sameEnd
  rw [h.nr x, h.nr y, h.nm]
theorem Alike.width {s r : Gr} (h : Alike s r) (x : Int) : widthEnd s.p s.wd s.nm x = widthEnd r.p r.wd r.nm x := by
  unfold widthEnd
  rw [h.nr x, h.nm, h.wd]
/-- behind close, or behind a rebuild -/
theorem Alike.ends {s r : Gr} (h : Alike s r) (ds : Down s.p) (dr : Down r.p) {p1 q1 : List Nat} {es1 fs1 : List (Opn × Nat)} (a : Mid s.p s.es p1 es1) (b : Mid r.p r.es q1 fs1) (ca : Cong (Eq1 p1) s.es) (cb : Cong (Eq1 q1) r.es) (ka : ∀ e ∈ es1, can p1 e.1 = e.1) (kb : ∀ e ∈ fs1, can q1 e.1 = e.1) (n1 : (es1.map Prod.fst).Nodup) (n2 : (fs1.map Prod.fst).Nodup) :
    Alike { s with p := p1, es := es1 } { r with p := q1, es := fs1 } := by
  have hr : ∀ c, root p1 c = root q1 c := fun c => root_eq a.down b.down (fun x y => ⟨a.le b cb dr h.rt h.l, b.le a ca ds (fun c => (h.rt c).symm) h.back⟩) c
  exact ⟨a.len.trans (h.len.trans b.len.symm), hr, h.wd, h.nm, h.vr, a.keys_le b ds ca ka kb hr h.rt h.l, b.keys_le a dr cb kb ka (fun c => (hr c).symm) (fun c => (h.rt c).symm) h.back, n1, n2⟩
theorem cong_keys {p : List Nat} {es : List (Opn × Nat)} (hk : ∀ e ∈ es, can p e.1 = e.1) (hn : (es.map Prod.fst).Nodup) : Cong (Eq1 p) es := quiet_cong (fun e he => ⟨e, he, rfl, rfl⟩) hn hk
/-- a rebuild of what is closed -/
theorem Alike.still {s r : Gr} (h : Alike s r) (ds : Down s.p) (dr : Down r.p) (is : In s.p s.es) (ks : Keys s) {p1 : List Nat} {es1 : List (Opn × Nat)} (k : RShut r.p r.es p1 es1) : Alike s { r with p := p1, es := es1 } :=
  h.ends ds dr (Mid.start ds is) k.mid (cong_keys ks h.nd1) k.cong ks k.keys h.nd1 k.nd
theorem Alike.join {s r : Gr} (h : Alike s r) (ds : Down s.p) (dr : Down r.p) {a b : Nat} (ha : a < s.p.length) (hb : b < s.p.length) : Alike { s with p := E.join s.p a b } { r with p := E.join r.p a b } := by
  have ha' : a < r.p.length := h.len ▸ ha
  have hb' : b < r.p.length := h.len ▸ hb
  obtain ⟨_, l1, r1⟩ := join_spec ds ha hb
  obtain ⟨_, l2, r2⟩ := join_spec dr ha' hb'
  refine ⟨l1.trans (h.len.trans l2.symm), fun c => ?_, h.wd, h.nm, h.vr, fun e he => ?_, fun f hf => ?_, h.nd1, h.nd2⟩
  · show root (E.join s.p a b) c = root (E.join r.p a b) c
    rw [r1, r2, h.rt, h.rt, h.rt]
  · obtain ⟨f, hf, e1, e2⟩ := h.l e he
    exact ⟨f, hf, e1, (join_coarse dr ha' hb').1 _ _ e2⟩
  · obtain ⟨e, he, e1, e2⟩ := h.back f hf
    exact ⟨e, he, e1, (join_coarse ds ha hb).1 _ _ e2⟩
/-- Union of both -/
theorem Two.uni {s r : Gr} (h : Two s r) {x y er er' : Int} {p1 q1 : List Nat} {es1 fs1 : List (Opn × Nat)} (u : UniR s.p s.wd s.es s.nm x y er p1 es1) (v : RUniR r.p r.wd r.es r.nm x y er' q1 fs1) (ok1 : Ok p1 s.wd es1 s.nm) (ok2 : Ok q1 r.wd fs1 r.nm) :
    er = er' ∧ Two { s with p := p1, es := es1 } { r with p := q1, es := fs1 } := by
  have hx := h.al.nr x
  have hy := h.al.nr y
  have hn : (nmOk s.nm x && nmOk s.nm y) = (nmOk r.nm x && nmOk r.nm y) := by rw [h.al.nm]
  have hw : ∀ z, s.wd.getD z 0 = r.wd.getD z 0 := fun z => by rw [h.al.wd]
  cases u with
  | none g =>
    cases v with
    | none _ => exact ⟨rfl, h⟩
    | type g' => rw [hn, g'] at g; cases g
    | ok g' => rw [hn, g'] at g; cases g
  | type g w =>
    cases v with
    | none g' => rw [hn, g'] at g; cases g
    | type _ _ => exact ⟨rfl, h⟩
    | ok _ w' => rw [hx, hy, hw, hw] at w; exact absurd w' w
  | ok g w hs hd =>
    cases v with
    | none g' => rw [hn, g'] at g; cases g
    | type _ w' => rw [hx, hy, hw, hw] at w; exact absurd w w'
    | ok _ _ hs' =>
      rw [Bool.and_eq_true] at g
      have lx := nr_lt (p := s.p) h.s.ok.nm g.1
      have ly := nr_lt (p := s.p) h.s.ok.nm g.2
      have hj := h.al.join h.s.ok.down h.r.ok.down lx ly
      have d1 := (join_spec h.s.ok.down lx ly).1
      have d2 := (join_spec h.r.ok.down (a := nr s.p s.nm x) (b := nr s.p s.nm y) (h.al.len ▸ lx) (h.al.len ▸ ly)).1
      rw [← hx, ← hy] at hs'
      have := hj.ends d1 d2 hs.mid hs'.mid hs.cong hs'.cong hs.keys hs'.keys hs.nd hs'.nd
      exact ⟨rfl, this, ⟨ok1, hs.keys, h.s.vr⟩, ⟨ok2, hs'.keys, h.r.vr⟩⟩

theorem keys_put {s : Gr} (hd : Down s.p) (hk : Keys s) (x : Opn) : Keys (s.put x).1 := by
  cases hc : AL.get s.es (can s.p x) with
  | some c => rw [Gr.put_some hc]; exact hk
  | none =>
    rw [Gr.put_none hc]
    intro e he
    show can (s.p ++ [s.p.length]) e.1 = e.1
    rw [can_app hd]
    rcases List.mem_append.1 he with he | he
    · exact hk e he
    · simp at he; subst he; exact can_can hd x
theorem in_put {s : Gr} (hi : In s.p s.es) (x : Opn) : In (s.put x).1.p (s.put x).1.es := by
  cases hc : AL.get s.es (can s.p x) with
  | some c => rw [Gr.put_some hc]; exact hi
  | none =>
    rw [Gr.put_none hc]
    intro e he
    show e.2 < (s.p ++ [s.p.length]).length
    rw [List.length_append, List.length_singleton]
    rcases List.mem_append.1 he with he | he
    · have := hi e he; omega
    · simp at he; subst he; exact Nat.lt_succ_self _
theorem nm_put (s : Gr) (x : Opn) : (s.put x).1.nm = s.nm ∧ (s.put x).1.vr = s.vr := by
  cases hc : AL.get s.es (can s.p x) with
  | some c => rw [Gr.put_some hc]; exact ⟨rfl, rfl⟩
  | none => rw [Gr.put_none hc]; exact ⟨rfl, rfl⟩
theorem puts_all : ∀ (L : List T.Nd) {s : Gr} {cl : List Nat}, Down s.p → Keys s → In s.p s.es → Keys (s.puts cl L).1 ∧ In (s.puts cl L).1.p (s.puts cl L).1.es ∧ (s.puts cl L).1.nm = s.nm ∧ (s.puts cl L).1.vr = s.vr := by
  intro L
  induction L with
  | nil => intro s cl _ hk hi; exact ⟨hk, hi, rfl, rfl⟩
  | cons x L ih =>
    intro s cl hd hk hi
    unfold Gr.puts
    obtain ⟨a, b, c, d⟩ := ih (cl := cl ++ [(s.put (opOf cl x)).2.1]) (put_down hd (opOf cl x)) (keys_put hd hk (opOf cl x)) (in_put hi (opOf cl x))
    obtain ⟨e1, e2⟩ := nm_put s (opOf cl x)
    exact ⟨a, b, c.trans e1, d.trans e2⟩
theorem Alike.of_set {s r : Gr} (h : Alike s r) {es0 : List (Opn × Nat)} (hn : (es0.map Prod.fst).Nodup) (he : ∀ x, x ∈ es0 ↔ x ∈ r.es) : Alike s { r with es := es0 } :=
  ⟨h.len, h.rt, h.wd, h.nm, h.vr, fun e he' => let ⟨f, hf, g⟩ := h.l e he'; ⟨f, (he f).2 hf, g⟩, fun f hf => h.back f ((he f).1 hf), h.nd1, hn⟩
theorem vr_max_get (v : Vr) (ws : List Int) {i : Nat} (h : i < 4) : (v.max ws).get i = max (v.get i) (ws.getD i 0) := by
  rcases (show i = 0 ∨ i = 1 ∨ i = 2 ∨ i = 3 by omega) with rfl | rfl | rfl | rfl <;> rfl
/-- Add of both -/
theorem Two.add {s r : Gr} (h : Two s r) {t : List T.Nd} (hi : ∀ x ∈ t, 0 ≤ x.imm ∧ x.imm < 4294967296) {s' r' : Gr} {no er no' er' : Int} (a : AddR s t s' no er) (b : RAddR r t r' no' er') (ok1 : s'.Ok) (ok2 : r'.Ok) :
    no = no' ∧ er = er' ∧ Two s' r' := by
  rcases a with ⟨hv, rfl, rfl, rfl⟩ | ⟨hv, f, hf, e⟩
  · cases b with
    | bad _ => exact ⟨rfl, rfl, h⟩
    | rule g => exact absurd g hv
    | large g => exact absurd g hv
    | ok g => exact absurd g hv
  · have hLv := canon_valid hv hf
    obtain ⟨_, _, _, _, hcl⟩ := valid_iff.1 hLv
    have hLk := canon_ok (valid_ok hv).2.2.1 hi hf
    have h4 : ∀ y ∈ T.canon f, y.op = 33 → y.imm.toNat < 4 := fun y hy ho => by
      have := ((hLk y hy).1.var ho).1
      have := (hLk y hy).2.1
      omega
    have hwa : ∀ y ∈ T.canon f, y.op = 33 → (T.widths (T.canon f)).getD y.imm.toNat 0 = y.w := fun y hy ho => by
      obtain ⟨j, hj⟩ := List.getElem?_of_mem hy
      rw [List.getD_eq_getElem?_getD, T.widths_at hcl (fun z hz => (hLk z hz).2.1) hj ho ((hLk y hy).1.var ho).1]
      rfl
    have hno : ∀ i, i < 4 → (∀ y ∈ T.canon f, y.op = 33 → y.imm.toNat ≠ i) → (T.widths (T.canon f)).getD i 0 = 0 := fun i hi hn => by
      rw [List.getD_eq_getElem?_getD, T.widths_none hn hi]
      rfl
    have good : (∀ i, i < 4 → ¬ VBad r.vr (T.widths (T.canon f)) i) → ∃ s1, s.adds [] (T.canon f) = some (s1, (s.puts [] (T.canon f)).2) ∧ s1 = { (s.puts [] (T.canon f)).1 with vr := r.vr.max (T.widths (T.canon f)) } := fun hb => by
      obtain ⟨s1, cl1, k1, k2⟩ := adds_ok (T.canon f) (s := s) (cl := []) h4 (fun y hy z hz hyo hzo hyz => by
        rw [← hwa y hy hyo, ← hwa z hz hzo, hyz]) (fun y hy ho => by
        have h0 := h.s.vr _ (h4 y hy ho)
        rcases Int.lt_or_eq_of_le h0 with h1 | h1
        · right
          refine Decidable.byContradiction fun hne => hb _ (h4 y hy ho) ⟨?_, ?_, ?_⟩
          · rw [hwa y hy ho]; have := (hLk y hy).1.w; omega
          · rw [← h.al.vr]; exact h1
          · rw [hwa y hy ho, ← h.al.vr]; exact fun e => hne e.symm
        · exact .inl h1.symm)
      obtain ⟨e1, e2⟩ := adds_puts _ k1
      refine ⟨s1, by rw [k1, e2], ?_⟩
      rw [e1]
      have : s1.vr = r.vr.max (T.widths (T.canon f)) := vr_max_of fun i hi => by
        rw [if_pos hi]
        obtain ⟨g1, g2⟩ := k2 i hi
        rw [← h.al.vr]
        have h0 := h.s.vr i hi
        by_cases hex : ∃ y ∈ T.canon f, y.op = 33 ∧ y.imm.toNat = i
        · obtain ⟨y, hy, ho, hyi⟩ := hex
          have hw1 := hwa y hy ho
          rw [hyi] at hw1
          rw [g1 y hy ho hyi, hw1]
          have hyw := (hLk y hy).1.w
          rcases Int.lt_or_eq_of_le h0 with h1 | h1
          · have : (T.widths (T.canon f)).getD i 0 = r.vr.get i := Decidable.byContradiction fun hne => hb i hi ⟨by rw [hw1]; omega, by rw [← h.al.vr]; exact h1, hne⟩
            rw [hw1, ← h.al.vr] at this
            omega
          · omega
        · have hn : ∀ y ∈ T.canon f, y.op = 33 → y.imm.toNat ≠ i := fun y hy ho e => hex ⟨y, hy, ho, e⟩
          rw [g2 hn, hno i hi hn]
          omega
      rw [this]
    cases b with
    | bad g => exact absurd hv g
    | @rule _ f' hf' i hi4 hb =>
      have := hf'.det hf
      subst this
      obtain ⟨b1, b2, b3⟩ := hb
      obtain ⟨z, hz⟩ : ∃ z, (T.widths (T.canon f'))[i]? = some z := by
        cases hc : (T.widths (T.canon f'))[i]? with
        | none => rw [List.getD_eq_getElem?_getD, hc] at b1; exact absurd b1 (by decide)
        | some z => exact ⟨z, rfl⟩
      rw [List.getD_eq_getElem?_getD, hz] at b1 b3
      obtain ⟨j, y, hj, ho, hyi, hyw⟩ := T.widths_mem hz (by have : 0 < z := b1; omega)
      have hn := adds_bad (T.canon f') (s := s) (cl := []) h4 (List.mem_of_getElem? hj) ho (by rw [hyi, h.al.vr]; omega) (by rw [hyi, h.al.vr, hyw]; exact fun e => b3 e.symm)
      unfold Gr.addT at e
      rw [hn] at e
      cases e
      exact ⟨rfl, rfl, h⟩
    | @large _ f' hf' hb es0 hn he p1 es1 hs hr =>
      have := hf'.det hf
      subst this
      obtain ⟨s1, k1, k2⟩ := good hb
      have al0 := h.al.of_set hn he
      obtain ⟨al1, cl1, d1, d2⟩ := al0.puts (T.canon f') (cl := []) h.s.ok.down h.r.ok.down
      obtain ⟨m1, m2, m3, m4⟩ := puts_all (T.canon f') (s := s) (cl := []) h.s.ok.down h.s.keys h.s.ok.inn
      have al2 := al1.still d1 d2 m2 m1 hs
      have hro : roots s1.p = roots p1 := by rw [k2]; exact al2.roots
      unfold Gr.addT at e
      rw [k1] at e
      dsimp only at e
      rw [hro, if_pos hr] at e
      cases e
      exact ⟨rfl, rfl, h⟩
    | @ok _ f' hf' hb es0 hn he p1 es1 hs hr =>
      have := hf'.det hf
      subst this
      obtain ⟨s1, k1, k2⟩ := good hb
      have al0 := h.al.of_set hn he
      obtain ⟨al1, cl1, d1, d2⟩ := al0.puts (T.canon f') (cl := []) h.s.ok.down h.r.ok.down
      obtain ⟨m1, m2, m3, m4⟩ := puts_all (T.canon f') (s := s) (cl := []) h.s.ok.down h.s.keys h.s.ok.inn
      have al2 := al1.still d1 d2 m2 m1 hs
      have hro : roots s1.p = roots p1 := by rw [k2]; exact al2.roots
      unfold Gr.addT at e
      rw [k1] at e
      dsimp only at e
      rw [hro, if_neg hr] at e
      have hnm : s1.nm = r.nm := by rw [k2]; exact m3.trans h.al.nm
      obtain ⟨e1, e2⟩ := Prod.mk.inj e
      obtain ⟨e2, e3⟩ := Prod.mk.inj e2
      have hvr : ∀ i, i < 4 → 0 ≤ (r.vr.max (T.widths (T.canon f'))).get i := fun i hi4 => by
        rw [vr_max_get _ _ hi4]
        have := h.r.vr i hi4
        omega
      refine ⟨by rw [e2, hnm], e3, ?_, ⟨ok1, ?_, ?_⟩, ⟨ok2, hs.keys, hvr⟩⟩
      · rw [e1]
        rw [k2]
        refine ⟨al2.len, al2.rt, al2.wd, ?_, rfl, al2.l, al2.back, al2.nd1, al2.nd2⟩
        show (s.puts [] (T.canon f')).1.nm ++ _ = _
        rw [m3, h.al.nm, cl1]
      · rw [e1, k2]; exact m1
      · rw [e1, k2]; exact hvr
theorem Two.new : Two Gr.new Gr.new := by
  have hc : Cln Gr.new := ⟨⟨(fun c hc => by simp [Gr.new] at hc), rfl, (fun e he => by cases he), (fun e he => by cases he), (fun c hc => by cases hc)⟩, (fun e he => by cases he), fun i hi => by
    rcases (show i = 0 ∨ i = 1 ∨ i = 2 ∨ i = 3 by omega) with rfl | rfl | rfl | rfl <;> exact Int.le_refl _⟩
  exact ⟨⟨rfl, fun _ => rfl, rfl, rfl, rfl, (fun e he => by cases he), (fun e he => by cases he), List.nodup_nil, List.nodup_nil⟩, hc, hc⟩
end E
end Go.Proofs.YtcmlmjbpdaecbaaGreat
end
section
namespace Go.Proofs.YtcmlmjbpdaecbaaGreat
open Go.RowKit Go.MapKept Go.Maps Go.WideMaps
set_option linter.unusedVariables false
set_option linter.unusedSimpArgs false

/-- a graph of the reference, of the call's own -/
structure RS (W : World) (s : E.Gr) (b : Nat) (v1 v2 v4 : Value) (kb : Nat) (w : World) : Prop where
  gr : RGC w b s.p s.wd s.es s.nm s.vr v1 v2 v4 kb
  ok : s.Ok
  owf : ∀ e ∈ s.es, OWf e.1
  bel : Below W.heap.size W w
  new : ∀ i, MR b v1 v2 v4 kb i → W.heap.size ≤ i
/-- .. with its blocks -/
def Rx (W : World) (s : E.Gr) (b : Nat) (M : Nat → Prop) (w : World) : Prop := ∃ v1 v2 v4 kb, RS W s b v1 v2 v4 kb w ∧ M = MR b v1 v2 v4 kb
section
variable {W w w' : World} {s s' : E.Gr} {b : Nat} {M M' : Nat → Prop}
theorem Rx.lt (h : Rx W s b M w) : ∀ i, M i → i < w.heap.size := by
  obtain ⟨v1, v2, v4, kb, h1, rfl⟩ := h
  exact h1.gr.lt
theorem Rx.bel (h : Rx W s b M w) : Below W.heap.size W w := let ⟨_, _, _, _, h1, _⟩ := h; h1.bel
theorem Rx.ok (h : Rx W s b M w) : s.Ok := let ⟨_, _, _, _, h1, _⟩ := h; h1.ok
theorem Rx.frame (h : Rx W s b M w) (hb : Below W.heap.size W w') (hs : ∀ i, M i → w'.heap[i]? = w.heap[i]?) : Rx W s b M w' := by
  obtain ⟨v1, v2, v4, kb, h1, rfl⟩ := h
  exact ⟨v1, v2, v4, kb, ⟨h1.gr.frame hs, h1.ok, h1.owf, hb, h1.new⟩, rfl⟩
theorem Rx.below (h : Rx W s b M w) (hb : Below w.heap.size w w') : Rx W s b M w' := h.frame (h.bel.trans (hb.mono h.bel.size)) fun i hi => hb.block i (h.lt i hi)
end

/-- both, apart, and apart from other blocks -/
def BM (W : World) (s r : E.Gr) (bg br : Nat) (X : Nat → Prop) (w : World) : Prop := ∃ Mg Mr, Gx W s bg Mg w ∧ Rx W r br Mr w ∧ (∀ i, Mg i → ¬ Mr i) ∧ ∀ i, X i → i < w.heap.size ∧ ¬ Mg i ∧ ¬ Mr i
/-- the sizes of a graph -/
structure Sz (s : E.Gr) (N : Nat) : Prop where
  p : s.p.length ≤ N
  es : s.es.length ≤ N
  nm : s.nm.length ≤ N
theorem Sz.mono {s : E.Gr} {N M : Nat} (h : Sz s N) (k : N ≤ M) : Sz s M := ⟨Nat.le_trans h.p k, Nat.le_trans h.es k, Nat.le_trans h.nm k⟩
theorem Sz.alike {s r : E.Gr} {N : Nat} (h : Sz s N) (a : E.Alike s r) : Sz r N := ⟨a.len ▸ h.p, a.count ▸ h.es, a.nm ▸ h.nm⟩
/-- other blocks stay as they were -/
def Stay (X : Nat → Prop) (w w' : World) : Prop := ∀ i, X i → w'.heap[i]? = w.heap[i]?
theorem Stay.cell {X : Nat → Prop} {w w' : World} (h : Stay X w w') {b k : Nat} (hb : X b) {v : Value} (hc : w.cell? ⟨b, k, none⟩ = some v) : w'.cell? ⟨b, k, none⟩ = some v := by
  rw [← hc]
  unfold World.cell?
  rw [show w'.heap[(⟨b, k, none⟩ : Addr).block]? = w.heap[(⟨b, k, none⟩ : Addr).block]? from h b hb]
section
variable {W w w' : World} {s r : E.Gr} {bg br : Nat} {X : Nat → Prop}
theorem BM.bel (h : BM W s r bg br X w) : Below W.heap.size W w := let ⟨_, _, h1, _, _⟩ := h; h1.bel
theorem BM.ok1 (h : BM W s r bg br X w) : s.Ok := let ⟨_, _, h1, _, _⟩ := h; h1.ok
theorem BM.ok2 (h : BM W s r bg br X w) : r.Ok := let ⟨_, _, _, h1, _⟩ := h; h1.ok
theorem BM.below (h : BM W s r bg br X w) (hb : Below w.heap.size w w') : BM W s r bg br X w' := let ⟨Mg, Mr, h1, h2, h3, h4⟩ := h; ⟨Mg, Mr, h1.below hb, h2.below hb, h3, fun i hi => ⟨Nat.lt_of_lt_of_le (h4 i hi).1 hb.size, (h4 i hi).2⟩⟩
/-- a block that is made new stays apart -/
theorem BM.protect (h : BM W s r bg br X w) (o : Obj) : BM W s r bg br (fun i => i = w.heap.size) (w.alloc o) := by
  obtain ⟨Mg, Mr, h1, h2, h3, h4⟩ := h
  have hb : Below w.heap.size w (w.alloc o) := (Below.refl _ _).alloc (Nat.le_refl _) _
  refine ⟨Mg, Mr, h1.below hb, h2.below hb, h3, ?_⟩
  rintro i rfl
  refine ⟨by simp, fun h => ?_, fun h => ?_⟩
  · have := h1.lt _ h; omega
  · have := h2.lt _ h; omega
theorem BM.forget (h : BM W s r bg br X w) : BM W s r bg br (fun _ => False) w := let ⟨Mg, Mr, h1, h2, h3, h4⟩ := h; ⟨Mg, Mr, h1, h2, h3, fun i hi => hi.elim⟩
theorem Gx.refNew {M : Nat → Prop} (h : Gx W s bg M w) : Calls Tryz.prog 33 #[] w fun e w' => ∃ br, e = .returned (.pointer (some ⟨br, 0, none⟩)) ∧ BM W s E.Gr.new bg br (fun _ => False) w' := by
  refine (rNew_any w).mono ?_
  rintro e w' ⟨rfl, hg, hb2⟩
  have hnew : ∀ i, MR (w.heap.size + 1) (.slice none 0 0) (.slice none 0 0) (.slice none 0 0) w.heap.size i → w.heap.size ≤ i := by
    rintro i (rfl | rfl | e | e | e)
    · omega
    · exact Nat.le_refl _
    all_goals simp [Value.ownBlock] at e
  refine ⟨_, rfl, M, _, h.below hb2, ⟨_, _, _, _, ⟨hg, ⟨(fun c hc => by simp [E.Gr.new] at hc), rfl, (fun e he => by cases he), (fun e he => by cases he), (fun c hc => by cases hc)⟩, (fun e he => by cases he), h.bel.trans (hb2.mono h.bel.size), fun i hi => Nat.le_trans h.bel.size (hnew i hi)⟩, rfl⟩, fun i hi hr => ?_, fun i hi => hi.elim⟩
  have := h.lt i hi
  have := hnew i hr
  omega
theorem BM.addG {N : Nat} (h : BM W s r bg br X w) (z : Sz s N) (hN : N ≤ 800000) {t : List T.Nd} {n ct : Nat} {At : Option Addr} (hT : StAt 5 NdR w At n t) :
    Calls Tryz.prog 23 #[.pointer (some ⟨bg, 0, none⟩), .slice At n ct] w fun e w' => ∃ s' no er, e = .returned (.tuple #[.int .i64 no, .int .i64 er]) ∧ E.AddR s t s' no er ∧ BM W s' r bg br X w' ∧ Sz s' (N + 300) ∧ Stay X w w' := by
  obtain ⟨Mg, Mr, h1, h2, h3, h4⟩ := h
  obtain ⟨v1, v2, v3, v4, kb, g1, rfl⟩ := h1
  have := z.p
  have := z.es
  have := z.nm
  refine (gAdd_any (ct := ct) g1.gr g1.ok g1.owf (by omega) (by omega) (by omega) hT).mono ?_
  rintro e w' ⟨s', no, er, a1, a2, a3, a4, k', ha⟩
  have q2 := g1.add ha
  refine ⟨s', no, er, ha.ret, ha.told, ⟨_, Mr, ⟨a1, a2, a3, a4, k', q2, rfl⟩, h2.frame q2.bel fun i hi => ha.kp.block i (h2.lt i hi) (fun e => h3 bg (.inl rfl) (e ▸ hi)), fun i hi hi' => ?_, fun i hi => ⟨Nat.lt_of_lt_of_le (h4 i hi).1 ha.kp.size, fun k => ?_, (h4 i hi).2.2⟩⟩, ⟨?_, ?_, ?_⟩, fun i hi => ha.kp.block i (h4 i hi).1 (fun e => (h4 i hi).2.1 (.inl e))⟩
  · rcases ha.new i hi with q | q
    · exact h3 i q hi'
    · have := h2.lt i hi'; omega
  · rcases ha.new i k with q | q
    · exact (h4 i hi).2.1 q
    · have := (h4 i hi).1; omega
  · have := ha.lp; omega
  · have := ha.le; omega
  · have := ha.lm; omega
theorem BM.addR {N : Nat} (h : BM W s r bg br X w) (z : Sz r N) (hN : N ≤ 800000) {t : List T.Nd} {n ct : Nat} {At : Option Addr} (hT : StAt 5 NdR w At n t) :
    Calls Tryz.prog 27 #[.pointer (some ⟨br, 0, none⟩), .slice At n ct] w fun e w' => ∃ r' no er, e = .returned (.tuple #[.int .i64 no, .int .i64 er]) ∧ E.RAddR r t r' no er ∧ BM W s r' bg br X w' ∧ Stay X w w' := by
  obtain ⟨Mg, Mr, h1, h2, h3, h4⟩ := h
  obtain ⟨v1, v2, v4, kb, g1, rfl⟩ := h2
  have hb : W.heap.size ≤ br := g1.new br (.inl rfl)
  have := z.p
  have := z.es
  have := z.nm
  refine (rAdd_any (ct := ct) g1.gr g1.ok g1.owf (by omega) (by omega) (by omega) hT).mono ?_
  rintro e w' ⟨r', no, er, a1, a2, a4, k', ha⟩
  have hbel : Below W.heap.size W w' := g1.bel.trans (ha.kp.below g1.bel.size fun i e => e ▸ hb)
  refine ⟨r', no, er, ha.ret, ha.told, ⟨Mg, _, h1.frame hbel fun i hi => ha.kp.block i (h1.lt i hi) (fun e => h3 i hi (.inl e)), ⟨a1, a2, a4, k', ⟨ha.gr, ha.ok, ha.owf, hbel, fun i hi => ?_⟩, rfl⟩, fun i hi hi' => ?_, fun i hi => ⟨Nat.lt_of_lt_of_le (h4 i hi).1 ha.kp.size, (h4 i hi).2.1, fun k => ?_⟩⟩, fun i hi => ha.kp.block i (h4 i hi).1 (fun e => (h4 i hi).2.2 (.inl e))⟩
  · rcases ha.new i hi with q | q
    · exact g1.new i q
    · have := g1.bel.size; omega
  · rcases ha.new i hi' with q | q
    · exact h3 i hi q
    · have := h1.lt i hi; omega
  · rcases ha.new i k with q | q
    · exact (h4 i hi).2.2 q
    · have := (h4 i hi).1; omega
theorem BM.uniG {N : Nat} (h : BM W s r bg br X w) (z : Sz s N) (hN : N ≤ 800000) (x y : Int) :
    Calls Tryz.prog 29 #[.pointer (some ⟨bg, 0, none⟩), .int .i64 x, .int .i64 y] w fun e w' => ∃ er p1 es1, e = .returned (.int .i64 er) ∧ UniR s.p s.wd s.es s.nm x y er p1 es1 ∧ BM W { s with p := p1, es := es1 } r bg br X w' ∧ Sz { s with p := p1, es := es1 } N ∧ Stay X w w' := by
  obtain ⟨Mg, Mr, h1, h2, h3, h4⟩ := h
  have := z.p
  have := z.es
  refine (h1.uni (by omega) (by omega) x y).mono ?_
  rintro e w' ⟨er, p1, es1, M', rfl, q1, q2, q3, q4, q5, q6⟩
  refine ⟨er, p1, es1, rfl, q1, ⟨M', Mr, q2, h2.frame q2.bel fun i hi => q3.block i (h2.lt i hi) (fun e => h3 i e hi), fun i hi hi' => ?_, fun i hi => ⟨Nat.lt_of_lt_of_le (h4 i hi).1 q3.size, fun k => ?_, (h4 i hi).2.2⟩⟩, ⟨?_, ?_, z.nm⟩, fun i hi => q3.block i (h4 i hi).1 (h4 i hi).2.1⟩
  · rcases q4 i hi with q | q
    · exact h3 i q hi'
    · have := h2.lt i hi'; omega
  · rcases q4 i k with q | q
    · exact (h4 i hi).2.1 q
    · have := (h4 i hi).1; omega
  · show p1.length ≤ N; omega
  · show es1.length ≤ N; omega
theorem BM.uniR {N : Nat} (h : BM W s r bg br X w) (z : Sz r N) (hN : N ≤ 800000) (x y : Int) :
    Calls Tryz.prog 34 #[.pointer (some ⟨br, 0, none⟩), .int .i64 x, .int .i64 y] w fun e w' => ∃ er p1 es1, e = .returned (.int .i64 er) ∧ RUniR r.p r.wd r.es r.nm x y er p1 es1 ∧ BM W s { r with p := p1, es := es1 } bg br X w' ∧ Stay X w w' := by
  obtain ⟨Mg, Mr, h1, h2, h3, h4⟩ := h
  obtain ⟨v1, v2, v4, kb, g1, rfl⟩ := h2
  have := z.p
  refine (rUnion_any g1.gr g1.ok g1.owf (by omega) x y).mono ?_
  rintro e w' ⟨er, p1, es1, kb', ha⟩
  have hbel : Below W.heap.size W w' := g1.bel.trans (ha.kp.below g1.bel.size g1.new)
  have hnew : ∀ i, MR br v1 v2 v4 kb' i → MR br v1 v2 v4 kb i ∨ w.heap.size ≤ i := by
    rintro i (e | e | e)
    · exact .inl (.inl e)
    · rcases ha.nk with k | k
      · exact .inl (.inr (.inl (e.trans k)))
      · exact .inr (by omega)
    · exact .inl (.inr (.inr e))
  refine ⟨er, p1, es1, ha.ret, ha.told, ⟨Mg, _, h1.frame hbel fun i hi => ha.kp.block i (h1.lt i hi) (fun e => h3 i hi e), ⟨v1, v2, v4, kb', ⟨ha.gr, ha.ok, ha.owf, hbel, fun i hi => ?_⟩, rfl⟩, fun i hi hi' => ?_, fun i hi => ⟨Nat.lt_of_lt_of_le (h4 i hi).1 ha.kp.size, (h4 i hi).2.1, fun k => ?_⟩⟩, fun i hi => ha.kp.block i (h4 i hi).1 (h4 i hi).2.2⟩
  · rcases hnew i hi with q | q
    · exact g1.new i q
    · have := g1.bel.size; omega
  · rcases hnew i hi' with q | q
    · exact h3 i hi q
    · have := h1.lt i hi; omega
  · rcases hnew i k with q | q
    · exact (h4 i hi).2.2 q
    · have := (h4 i hi).1; omega
theorem BM.sameG (h : BM W s r bg br X w) (x y : Int) : Calls Tryz.prog 24 #[.pointer (some ⟨bg, 0, none⟩), .int .i64 x, .int .i64 y] w fun e w' => Below w.heap.size w w' ∧ e = sameEnd s.p s.nm x y := by
  obtain ⟨Mg, Mr, h1, h2, h3, h4⟩ := h
  exact h1.same x y
theorem BM.sameR (h : BM W s r bg br X w) (x y : Int) : Calls Tryz.prog 57 #[.pointer (some ⟨br, 0, none⟩), .int .i64 x, .int .i64 y] w fun e w' => w' = w ∧ e = sameEnd r.p r.nm x y := by
  obtain ⟨Mg, Mr, h1, ⟨v1, v2, v4, kb, g1, rfl⟩, h3, h4⟩ := h
  exact rSame_any g1.gr g1.ok.down g1.ok.nm x y
theorem BM.widthG (h : BM W s r bg br X w) (x : Int) : Calls Tryz.prog 55 #[.pointer (some ⟨bg, 0, none⟩), .int .i64 x] w fun e w' => Below w.heap.size w w' ∧ e = widthEnd s.p s.wd s.nm x := by
  obtain ⟨Mg, Mr, ⟨v1, v2, v3, v4, kb, g1, rfl⟩, h2, h3, h4⟩ := h
  exact gWidth_any g1.gr g1.ok x
theorem BM.widthR (h : BM W s r bg br X w) (x : Int) : Calls Tryz.prog 56 #[.pointer (some ⟨br, 0, none⟩), .int .i64 x] w fun e w' => Below w.heap.size w w' ∧ e = widthEnd r.p r.wd r.nm x := by
  obtain ⟨Mg, Mr, h1, ⟨v1, v2, v4, kb, g1, rfl⟩, h3, h4⟩ := h
  exact rWidth_any g1.gr g1.ok.down g1.ok.wd g1.ok.nm x
theorem BM.classesG {N : Nat} (h : BM W s r bg br X w) (z : Sz s N) (hN : N ≤ 800000) : Calls Tryz.prog 21 #[.pointer (some ⟨bg, 0, none⟩)] w fun e w' => e = .returned (.int .i64 (E.roots s.p : Nat)) ∧ Below w.heap.size w w' := by
  obtain ⟨Mg, Mr, h1, h2, h3, h4⟩ := h
  have := z.p
  exact h1.classes (by omega)
theorem BM.classesR {N : Nat} (h : BM W s r bg br X w) (z : Sz r N) (hN : N ≤ 800000) : Calls Tryz.prog 53 #[.pointer (some ⟨br, 0, none⟩)] w fun e w' => e = .returned (.int .i64 (E.roots r.p : Nat)) ∧ w' = w := by
  obtain ⟨Mg, Mr, h1, ⟨v1, v2, v4, kb, g1, rfl⟩, h3, h4⟩ := h
  have := z.p
  exact rClasses_any g1.gr g1.ok.down (by omega)
theorem BM.nodesG (h : BM W s r bg br X w) : Calls Tryz.prog 22 #[.pointer (some ⟨bg, 0, none⟩)] w fun e w' => e = .returned (.int .i64 (s.es.length : Nat)) ∧ w' = w := by
  obtain ⟨Mg, Mr, h1, h2, h3, h4⟩ := h
  exact h1.nodes
theorem BM.nodesR (h : BM W s r bg br X w) : Calls Tryz.prog 54 #[.pointer (some ⟨br, 0, none⟩)] w fun e w' => e = .returned (.int .i64 (r.es.length : Nat)) ∧ w' = w := by
  obtain ⟨Mg, Mr, h1, ⟨v1, v2, v4, kb, g1, rfl⟩, h3, h4⟩ := h
  exact rNodes_any g1.gr
/-- the names of the reference's graph, in its fourth cell -/
theorem BM.names (h : BM W s r bg br X w) : ∃ A c, w.cell? ⟨br, 3, none⟩ = some (.slice A r.nm.length c) := by
  obtain ⟨Mg, Mr, h1, ⟨v1, v2, v4, kb, g1, rfl⟩, h3, h4⟩ := h
  obtain ⟨A, c, e⟩ := g1.gr.o4.form
  exact ⟨A, c, e ▸ g1.gr.cells.2.2.2⟩
end
end Go.Proofs.YtcmlmjbpdaecbaaGreat
end
