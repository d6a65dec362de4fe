/- Merged: QPA1, QPA2. -/
import Derived.Test.YtcmlmjbpdaecbaaGreatA37
set_option linter.unusedVariables false
set_option linter.unusedSimpArgs false
section
namespace Go.Proofs.YtcmlmjbpdaecbaaGreat
set_option linter.unusedVariables false
set_option linter.unusedSimpArgs false
namespace E
/-- operand number i -/
def arg (x : Opn) (i : Nat) : Int := match i with
  | 0 => x.a0
  | 1 => x.a1
  | _ => x.a2
def argW (wd : List Int) (x : Opn) (i : Nat) : Int := wd.getD (arg x i).toNat 0
/-- an operation over classes of the right widths -/
structure Ty (wd : List Int) (x : Opn) : Prop where
  n : 0 ≤ T.ar x.op
  hi : ∀ i : Nat, (i : Int) < T.ar x.op → 0 ≤ arg x i
  no : ∀ i : Nat, i < 3 → T.ar x.op ≤ i → arg x i = -1
  ws : ∀ i : Nat, (i : Int) < T.ar x.op → 1 ≤ argW wd x i ∧ argW wd x i ≤ 32
  w : 1 ≤ x.w ∧ x.w ≤ 32
  im : T.immOk ⟨x.op, x.w, 0, [], x.imm⟩ = true
  i0 : 0 ≤ x.imm ∧ x.imm < 4294967296
  c1 : x.op = 14 → x.w = 1
  bin : 1 ≤ x.op → x.op ≤ 13 → argW wd x 0 = x.w ∧ argW wd x 1 = x.w
  cmp : x.op = 14 → argW wd x 0 = argW wd x 1
  ite : x.op = 15 → argW wd x 0 = 1 ∧ argW wd x 1 = x.w ∧ argW wd x 2 = x.w
  up : x.op = 16 ∨ x.op = 17 → argW wd x 0 < x.w
  down : x.op = 18 → x.w < argW wd x 0
theorem ar_3 (op : Int) : T.ar op ≤ 3 := by
  unfold T.ar
  split
  · omega
  · split
    · omega
    · split
      · omega
      · split <;> omega
/-- .. over other classes of the same widths -/
theorem Ty.sim {wd wd' : List Int} {x y : Opn} (h : Ty wd x) (e : x.op = y.op ∧ x.w = y.w ∧ x.imm = y.imm) (ha : ∀ i : Nat, i < 3 → (arg x i < 0 ∧ arg y i = arg x i) ∨ (0 ≤ arg x i ∧ 0 ≤ arg y i ∧ argW wd' y i = argW wd x i)) : Ty wd' y := by
  obtain ⟨e1, e2, e3⟩ := e
  have h3 := ar_3 x.op
  have hw : ∀ i : Nat, (i : Int) < T.ar x.op → 0 ≤ arg y i ∧ argW wd' y i = argW wd x i := fun i hi => by
    rcases ha i (by omega) with ⟨a, _⟩ | ⟨_, a, b⟩
    · have := h.hi i hi; omega
    · exact ⟨a, b⟩
  have h2 : 1 ≤ x.op → x.op ≤ 14 → T.ar x.op = 2 := fun a b => by unfold T.ar; rw [if_neg (by omega), if_pos ⟨a, b⟩]
  have h15 : x.op = 15 → T.ar x.op = 3 := fun a => by unfold T.ar; rw [if_neg (by omega), if_neg (by omega), if_pos a]
  have h16 : 16 ≤ x.op → x.op ≤ 18 → T.ar x.op = 1 := fun a b => by unfold T.ar; rw [if_neg (by omega), if_neg (by omega), if_neg (by omega), if_pos ⟨a, b⟩]
  refine ⟨by rw [← e1]; exact h.n, fun i hi => (hw i (by rw [e1]; exact hi)).1, fun i hi hn => ?_, fun i hi => ?_, by rw [← e2]; exact h.w, by rw [← e1, ← e2, ← e3]; exact h.im, by rw [← e3]; exact h.i0, fun e => by rw [← e2]; exact h.c1 (e1.trans e), fun a b => ?_, fun a => ?_, fun a => ?_, fun a => ?_, fun a => ?_⟩
  · have hx := h.no i hi (by rw [e1]; exact hn)
    rcases ha i hi with ⟨_, b⟩ | ⟨b, _⟩
    · rw [b, hx]
    · omega
  · rw [← e1] at hi
    rw [(hw i hi).2]
    exact h.ws i hi
  · rw [← e1] at a b
    have := h2 a (by omega)
    rw [(hw 0 (by omega)).2, (hw 1 (by omega)).2, ← e2]
    exact h.bin a b
  · rw [← e1] at a
    have := h2 (by omega) (by omega)
    rw [(hw 0 (by omega)).2, (hw 1 (by omega)).2]
    exact h.cmp a
  · rw [← e1] at a
    have := h15 a
    rw [(hw 0 (by omega)).2, (hw 1 (by omega)).2, (hw 2 (by omega)).2, ← e2]
    exact h.ite a
  · rw [← e1] at a
    have := h16 (by omega) (by omega)
    rw [(hw 0 (by omega)).2, ← e2]
    exact h.up a
  · rw [← e1] at a
    have := h16 (by omega) (by omega)
    rw [(hw 0 (by omega)).2, ← e2]
    exact h.down a
theorem arg_can (p : List Nat) (x : Opn) (i : Nat) : arg (can p x) i = cr p (arg x i) := by
  rcases i with _ | _ | i <;> rfl
theorem arg_rel {R : Nat → Nat → Prop} {x y : Opn} (h : Sim R x y) (i : Nat) : Rel R (arg x i) (arg y i) := by
  rcases i with _ | _ | i
  · exact h.2.1
  · exact h.2.2.1
  · exact h.2.2.2
/-- a class that stands on others -/
inductive Grd (p : List Nat) (es : List (Opn × Nat)) : Nat → Prop where
  | mk {e : Opn × Nat} {c : Nat} (he : e ∈ es) (hc : root p c = root p e.2) (ha : ∀ i, i < 3 → 0 ≤ arg e.1 i → Grd p es (arg e.1 i).toNat) : Grd p es c
theorem Grd.of_root {p : List Nat} {es : List (Opn × Nat)} {c d : Nat} (h : Grd p es c) (e : root p c = root p d) : Grd p es d := by
  cases h with
  | mk he hc ha => exact .mk he (e.symm.trans hc) ha
theorem Grd.coarse {p q : List Nat} {es fs : List (Opn × Nat)} {c : Nat} (h : Grd p es c) (hc : Coarse p q) (hs : ∀ e ∈ es, e ∈ fs) : Grd q fs c := by
  induction h with
  | mk he h1 ha ih => exact .mk (hs _ he) (hc _ _ h1) ih
theorem cr_arg {p : List Nat} {a b : Int} (h : cr p a = cr p b) (ha : 0 ≤ a) : 0 ≤ b ∧ root p a.toNat = root p b.toNat := by
  unfold cr at h
  rw [if_neg (by omega)] at h
  split at h
  · omega
  · exact ⟨by omega, by omega⟩
theorem Grd.mid {p q : List Nat} {es fs : List (Opn × Nat)} {c : Nat} (h : Grd p es c) (m : Mid p es q fs) : Grd q fs c := by
  induction h with
  | @mk e c he h1 ha ih =>
    obtain ⟨k, hk, k1, k2⟩ := m.rep e he
    refine .mk hk ((m.coarse _ _ h1).trans k2.symm) fun i hi h0 => ?_
    have hc : cr q (arg k.1 i) = cr q (arg e.1 i) := by rw [← arg_can, ← arg_can, k1]
    obtain ⟨a, b⟩ := cr_arg hc h0
    exact (ih i hi a).of_root b.symm
/-- what a graph that was played has -/
structure Typ (s : Gr) : Prop where
  ty : ∀ e ∈ s.es, Ty s.wd e.1
  cw : ∀ e ∈ s.es, s.wd.getD e.2 0 = e.1.w
  rw : ∀ c, c < s.p.length → s.wd.getD (root s.p c) 0 = s.wd.getD c 0
  gr : ∀ c, c < s.p.length → Grd s.p s.es c
  cl : ∀ e ∈ s.es, root s.p e.2 = e.2
structure TypV (s : Gr) : Prop where
  vr : ∀ e ∈ s.es, e.1.op = 33 → s.vr.get e.1.imm.toNat = e.1.w
  vw : ∀ i, i < 4 → s.vr.get i = 0 ∨ (1 ≤ s.vr.get i ∧ s.vr.get i ≤ 32)

theorem getD_app_lt {wd : List Int} {w : Int} {c : Nat} (h : c < wd.length) : (wd ++ [w]).getD c 0 = wd.getD c 0 := by
  rw [List.getD_eq_getElem?_getD, List.getD_eq_getElem?_getD, List.getElem?_append_left h]
theorem getD_app_eq {wd : List Int} {w : Int} : (wd ++ [w]).getD wd.length 0 = w := by
  rw [List.getD_eq_getElem?_getD, List.getElem?_append_right (Nat.le_refl _)]; simp
/-- an operation put in -/
theorem Typ.put {s : Gr} (h : Typ s) (ok : s.Ok) {x : Opn} (hx : Ty s.wd x) (har : Ar s.p.length x) : Typ (s.put x).1 ∧ (s.put x).1.wd.getD (s.put x).2.1 0 = x.w ∧ ∀ c, c < s.p.length → (s.put x).1.wd.getD c 0 = s.wd.getD c 0 := by
  cases hc : AL.get s.es (can s.p x) with
  | some c =>
    rw [Gr.put_some hc]
    have hm := get_in hc
    refine ⟨h, ?_, fun _ _ => rfl⟩
    show s.wd.getD (root s.p c) 0 = x.w
    rw [h.rw c (ok.inn _ hm), h.cw _ hm]
    rfl
  | none =>
    rw [Gr.put_none hc]
    have hwl := ok.wd
    have hargs : ∀ i, i < 3 → 0 ≤ arg x i → (arg x i).toNat < s.p.length := fun i hi h0 => by
      have : ArOk s.p.length (arg x i) := by
        rcases i with _ | _ | i
        · exact har.1
        · exact har.2.1
        · exact har.2.2
      rcases this with e | e
      · omega
      · omega
    have hold : ∀ e ∈ s.es, ∀ i, i < 3 → 0 ≤ arg e.1 i → (arg e.1 i).toNat < s.p.length := fun e he i hi h0 => by
      have : ArOk s.p.length (arg e.1 i) := by
        rcases i with _ | _ | i
        · exact (ok.ar e he).1
        · exact (ok.ar e he).2.1
        · exact (ok.ar e he).2.2
      rcases this with e | e
      · omega
      · omega
    have hgr : ∀ c, Grd s.p s.es c → Grd (s.p ++ [s.p.length]) (s.es ++ [(can s.p x, s.p.length)]) c := fun c g =>
      g.coarse (fun a b e => by rw [root_app ok.down, root_app ok.down, e]) fun e he => List.mem_append_left _ he
    have hcan : ∀ i, i < 3 → (arg x i < 0 ∧ arg (can s.p x) i = arg x i) ∨ (0 ≤ arg x i ∧ 0 ≤ arg (can s.p x) i ∧ (arg (can s.p x) i).toNat = root s.p (arg x i).toNat) := fun i hi => by
      rw [arg_can]
      unfold cr
      split
      · exact .inl ⟨by assumption, rfl⟩
      · exact .inr ⟨by omega, by omega, by omega⟩
    refine ⟨⟨fun e he => ?_, fun e he => ?_, fun c hlt => ?_, fun c hlt => ?_, fun e he => ?_⟩, ?_, fun c hlt => ?_⟩
    · rcases List.mem_append.1 he with he | he
      · refine (h.ty e he).sim ⟨rfl, rfl, rfl⟩ fun i hi => ?_
        rcases Int.lt_or_le (arg e.1 i) 0 with h0 | h0
        · exact .inl ⟨h0, rfl⟩
        · refine .inr ⟨h0, h0, ?_⟩
          unfold argW
          exact getD_app_lt (by have := hold e he i hi h0; omega)
      · simp at he
        subst he
        refine hx.sim ⟨rfl, rfl, rfl⟩ fun i hi => ?_
        rcases hcan i hi with c | ⟨c1, c2, c3⟩
        · exact .inl c
        · refine .inr ⟨c1, c2, ?_⟩
          unfold argW
          have hl := hargs i hi c1
          show (s.wd ++ [x.w]).getD (arg (can s.p x) i).toNat 0 = _
          rw [c3, getD_app_lt (by have := root_lt hl; omega), h.rw _ hl]
    · show (s.wd ++ [x.w]).getD e.2 0 = e.1.w
      rcases List.mem_append.1 he with he | he
      · rw [getD_app_lt (by have := ok.inn e he; omega)]
        exact h.cw e he
      · simp at he
        subst he
        show (s.wd ++ [x.w]).getD s.p.length 0 = x.w
        rw [← hwl]
        exact getD_app_eq
    · show (s.wd ++ [x.w]).getD (root (s.p ++ [s.p.length]) c) 0 = (s.wd ++ [x.w]).getD c 0
      rw [root_app ok.down]
      have hlt' : c < s.p.length + 1 := by simpa using hlt
      rcases Nat.lt_or_ge c s.p.length with hl | hl
      · rw [getD_app_lt (by have := root_lt hl; omega), getD_app_lt (by omega), h.rw c hl]
      · have : c = s.p.length := by omega
        subst this
        rw [root_of_fix (getD_out (Nat.le_refl _))]
    · have hlt' : c < s.p.length + 1 := by simpa using hlt
      rcases Nat.lt_or_ge c s.p.length with hl | hl
      · exact hgr c (h.gr c hl)
      · have : c = s.p.length := by omega
        subst this
        refine .mk (e := (can s.p x, s.p.length)) (List.mem_append_right _ (by simp)) rfl fun i hi h0 => ?_
        rcases hcan i hi with ⟨c1, c2⟩ | ⟨c1, c2, c3⟩
        · have h0' : 0 ≤ arg (can s.p x) i := h0
          omega
        · show Grd _ _ (arg (can s.p x) i).toNat
          rw [c3]
          exact hgr _ (h.gr _ (root_lt (hargs i hi c1)))
    · show root (s.p ++ [s.p.length]) e.2 = e.2
      rw [root_app ok.down]
      rcases List.mem_append.1 he with he | he
      · exact h.cl e he
      · simp at he
        subst he
        exact root_of_fix (getD_out (Nat.le_refl _))
    · show (s.wd ++ [x.w]).getD s.p.length 0 = x.w
      rw [← hwl]
      exact getD_app_eq
    · show (s.wd ++ [x.w]).getD c 0 = _
      exact getD_app_lt (by omega)

/-- the operation of a node of a valid term -/
theorem ty_node {L : List T.Nd} {wd : List Int} {cl : List Nat} {k : Nat} {x : T.Nd} (hs : T.shaped true k x = true) (ht : T.typed L x = true) (h3 : ∀ y ∈ L, 1 ≤ y.w ∧ y.w ≤ 32) (hi : 0 ≤ x.imm ∧ x.imm < 4294967296) (hk : k ≤ L.length) (hcl : ∀ j y, j < k → L[j]? = some y → wd.getD (cl.getD j 0) 0 = y.w) : Ty wd (opOf cl x) := by
  unfold T.shaped at hs
  simp only [Bool.and_eq_true, Bool.or_eq_true, decide_eq_true_eq] at hs
  obtain ⟨⟨⟨⟨⟨⟨⟨s1, s2⟩, s3⟩, s4⟩, s5⟩, s6⟩, s7⟩, s8⟩ := hs
  unfold T.argsOk at s8
  rw [List.all_eq_true] at s8
  have hal : ∀ a ∈ x.args, 0 ≤ a ∧ a < (k : Int) := fun a ha => by simpa using s8 a ha
  have harg : ∀ i, i < 3 → arg (opOf cl x) i = (x.args.map fun a => ((cl.getD a.toNat 0 : Nat) : Int)).getD i (-1) := fun i hi => by
    rcases (show i = 0 ∨ i = 1 ∨ i = 2 by omega) with rfl | rfl | rfl <;> rfl
  have har : ∀ i, i < 3 → i < x.args.length → ∃ a, x.args[i]? = some a ∧ arg (opOf cl x) i = ((cl.getD a.toNat 0 : Nat) : Int) := fun i hi hl => by
    refine ⟨x.args[i], List.getElem?_eq_getElem hl, ?_⟩
    rw [harg i hi, List.getD_eq_getElem?_getD, List.getElem?_map, List.getElem?_eq_getElem hl]
    rfl
  have h3' := ar_3 x.op
  have haw : ∀ i, i < x.args.length → argW wd (opOf cl x) i = T.wd L x i := fun i hl => by
    obtain ⟨a, ha, e⟩ := har i (by omega) hl
    have hb := hal a (List.mem_of_getElem? ha)
    have hlt : a.toNat < L.length := by omega
    unfold argW T.wd
    rw [e, Int.toNat_natCast, hcl a.toNat L[a.toNat] (by omega) (List.getElem?_eq_getElem hlt)]
    rw [List.getD_eq_getElem?_getD (l := x.args), ha, List.getD_eq_getElem?_getD (l := L)]
    show _ = (L[a.toNat]?.getD default).w
    rw [List.getElem?_eq_getElem hlt]
    rfl
  have hww : ∀ i, i < x.args.length → 1 ≤ T.wd L x i ∧ T.wd L x i ≤ 32 := fun i hl => by
    have hb := hal _ (List.getElem_mem hl)
    have hlt : x.args[i].toNat < L.length := by omega
    have e1 : x.args.getD i 0 = x.args[i] := by rw [List.getD_eq_getElem?_getD, List.getElem?_eq_getElem hl]; rfl
    have e2 : L.getD x.args[i].toNat default = L[x.args[i].toNat] := by rw [List.getD_eq_getElem?_getD, List.getElem?_eq_getElem hlt]; rfl
    unfold T.wd
    rw [e1, e2]
    exact h3 _ (List.getElem_mem hlt)
  have h2 : 1 ≤ x.op → x.op ≤ 14 → T.ar x.op = 2 := fun a b => by unfold T.ar; rw [if_neg (by omega), if_pos ⟨a, b⟩]
  have h15 : x.op = 15 → T.ar x.op = 3 := fun a => by unfold T.ar; rw [if_neg (by omega), if_neg (by omega), if_pos a]
  have h16 : 16 ≤ x.op → x.op ≤ 18 → T.ar x.op = 1 := fun a b => by unfold T.ar; rw [if_neg (by omega), if_neg (by omega), if_neg (by omega), if_pos ⟨a, b⟩]
  refine ⟨s1, fun i hi' => ?_, fun i hi' hn => ?_, fun i hi' => ?_, ⟨s2, s3⟩, ?_, hi, fun e => ?_, fun a b => ?_, fun a => ?_, fun a => ?_, fun a => ?_, fun a => ?_⟩
  · have hi2 : (i : Int) < T.ar x.op := hi'
    obtain ⟨a, _, e⟩ := har i (by omega) (by omega)
    rw [e]; omega
  · have hn2 : T.ar x.op ≤ i := hn
    rw [harg i hi', List.getD_eq_getElem?_getD, List.getElem?_eq_none (by simp; omega)]
    rfl
  · have hi2 : (i : Int) < T.ar x.op := hi'
    rw [haw i (by omega)]
    exact hww i (by omega)
  · exact s6
  · rcases s7 with s7 | s7
    · have : x.op = 14 := e
      simp [this] at s7
    · exact s7
  · have a' : 1 ≤ x.op := a
    have b' : x.op ≤ 13 := b
    have := h2 a' (by omega)
    rw [haw 0 (by omega), haw 1 (by omega)]
    unfold T.typed at ht
    rw [if_pos ⟨a', b'⟩] at ht
    simp only [Bool.and_eq_true, decide_eq_true_eq] at ht
    exact ht
  · have a' : x.op = 14 := a
    have := h2 (by omega) (by omega)
    rw [haw 0 (by omega), haw 1 (by omega)]
    unfold T.typed at ht
    rw [if_neg (by omega), if_pos a'] at ht
    exact of_decide_eq_true ht
  · have a' : x.op = 15 := a
    have := h15 a'
    rw [haw 0 (by omega), haw 1 (by omega), haw 2 (by omega)]
    unfold T.typed at ht
    rw [if_neg (by omega), if_neg (by omega), if_pos a'] at ht
    simp only [Bool.and_eq_true, decide_eq_true_eq] at ht
    exact ⟨ht.1.1, ht.1.2, ht.2⟩
  · have a' : x.op = 16 ∨ x.op = 17 := a
    have := h16 (by omega) (by omega)
    rw [haw 0 (by omega)]
    unfold T.typed at ht
    rw [if_neg (by omega), if_neg (by omega), if_neg (by omega), if_pos a'] at ht
    exact of_decide_eq_true ht
  · have a' : x.op = 18 := a
    have := h16 (by omega) (by omega)
    rw [haw 0 (by omega)]
    unfold T.typed at ht
    rw [if_neg (by omega), if_neg (by omega), if_neg (by omega), if_neg (by omega), if_pos a'] at ht
    exact of_decide_eq_true ht
end E
end Go.Proofs.YtcmlmjbpdaecbaaGreat
end
section
namespace Go.Proofs.YtcmlmjbpdaecbaaGreat
set_option linter.unusedVariables false
set_option linter.unusedSimpArgs false
namespace E
/-- a list of nodes that is valid, with words in range -/
structure VL (L : List T.Nd) : Prop where
  v : T.valid true L = 0
  i : ∀ x ∈ L, 0 ≤ x.imm ∧ x.imm < 4294967296
theorem VL.node {L : List T.Nd} (h : VL L) {k : Nat} {x : T.Nd} (hx : L[k]? = some x) {wd : List Int} {cl : List Nat} (hcl : ∀ j y, j < k → L[j]? = some y → wd.getD (cl.getD j 0) 0 = y.w) : Ty wd (opOf cl x) := by
  obtain ⟨_, _, h3, h4, _⟩ := valid_iff.1 h.v
  have hk := (List.getElem?_eq_some_iff.1 hx).1
  exact ty_node (h3 k x hx) (h4 x (List.mem_of_getElem? hx)) (fun y hy => ((valid_ok h.v).2.2.1 y hy).w) (h.i x (List.mem_of_getElem? hx)) (Nat.le_of_lt hk) hcl
theorem VL.ar {L : List T.Nd} (h : VL L) {k : Nat} {x : T.Nd} (hx : L[k]? = some x) {n : Nat} {cl : List Nat} (hl : cl.length = k) (hlo : ∀ c ∈ cl, c < n) : Ar n (opOf cl x) := by
  have hord := (valid_ok h.v).2.2.2
  have ha := hord k x hx
  have hg : ∀ i, ArOk n ((x.args.map fun a => ((cl.getD a.toNat 0 : Nat) : Int)).getD i (-1)) := fun i => by
    rw [List.getD_eq_getElem?_getD]
    cases e : (x.args.map fun a => ((cl.getD a.toNat 0 : Nat) : Int))[i]? with
    | none => exact .inl rfl
    | some z =>
      rw [List.getElem?_map] at e
      cases e2 : x.args[i]? with
      | none => rw [e2] at e; cases e
      | some a =>
        rw [e2] at e
        simp only [Option.map_some, Option.some.injEq] at e
        have := ha a (List.mem_of_getElem? e2)
        have h1 : cl.getD a.toNat 0 ∈ cl := by
          rw [List.getD_eq_getElem?_getD, List.getElem?_eq_getElem (by omega)]
          exact List.getElem_mem _
        have := hlo _ h1
        refine .inr ⟨?_, ?_⟩
        · show 0 ≤ z; omega
        · show z < _; omega
  exact ⟨hg 0, hg 1, hg 2⟩
theorem puts_typ {L : List T.Nd} (h : VL L) : ∀ (M : List T.Nd) {k : Nat} {s : Gr} {cl : List Nat}, Typ s → s.Ok → cl.length = k → (∀ c ∈ cl, c < s.p.length) → (∀ j y, j < k → L[j]? = some y → s.wd.getD (cl.getD j 0) 0 = y.w) → L.drop k = M → Typ (s.puts cl M).1 := by
  intro M
  induction M with
  | nil => intro k s cl ht _ _ _ _ _; exact ht
  | cons x M ih =>
    intro k s cl ht ok hl hlo hcl hd
    have hx : L[k]? = some x := by
      have := congrArg (fun l => l[0]?) hd
      simpa using this
    have hd' : L.drop (k + 1) = M := by
      have := congrArg (List.drop 1) hd
      simpa [List.drop_drop, Nat.add_comm] using this
    have hty := h.node hx hcl
    have har := h.ar hx hl hlo
    obtain ⟨p1, p2, p3⟩ := ht.put ok hty har
    obtain ⟨q1, q2, q3, q4, q5, q6⟩ := Gr.put_ok ok har
    unfold Gr.puts
    refine ih (k := k + 1) p1 q1 (by simp [hl]) (fun c hc => ?_) (fun j y hj hy => ?_) hd'
    · rcases List.mem_append.1 hc with hc | hc
      · have := hlo c hc; omega
      · simp at hc; subst hc; exact q2
    · rcases Nat.lt_or_ge j k with hjk | hjk
      · have e : (cl ++ [(s.put (opOf cl x)).2.1]).getD j 0 = cl.getD j 0 := by
          rw [List.getD_eq_getElem?_getD, List.getD_eq_getElem?_getD, List.getElem?_append_left (by omega)]
        have hm : cl.getD j 0 ∈ cl := by
          rw [List.getD_eq_getElem?_getD, List.getElem?_eq_getElem (by omega)]
          exact List.getElem_mem _
        rw [e, p3 _ (hlo _ hm)]
        exact hcl j y hjk hy
      · have : j = k := by omega
        subst this
        have e : (cl ++ [(s.put (opOf cl x)).2.1]).getD j 0 = (s.put (opOf cl x)).2.1 := by
          rw [List.getD_eq_getElem?_getD, List.getElem?_append_right (by omega), hl]; simp
        rw [hx] at hy
        cases hy
        rw [e, p2]
        rfl
theorem vars_vr2 {s s1 : Gr} {x : T.Nd} (h4 : x.op = 33 → x.imm.toNat < 4) (h : s.vars x = some s1) : ∀ i, i < 4 → s1.vr.get i = if x.op = 33 ∧ i = x.imm.toNat then x.w else s.vr.get i := by
  intro i hi
  unfold Gr.vars at h
  by_cases ho : x.op = 33
  · rw [if_pos ho] at h
    split at h
    · cases h
    · cases h
      dsimp only
      rw [vr_get_lt (h4 ho) _ _ hi]
      simp [ho]
  · rw [if_neg ho] at h
    cases h
    rw [if_neg (fun h => ho h.1)]
theorem vars_ok {s s1 : Gr} {x : T.Nd} (h : s.vars x = some s1) (ho : x.op = 33) : s.vr.get x.imm.toNat = 0 ∨ s.vr.get x.imm.toNat = x.w := by
  unfold Gr.vars at h
  rw [if_pos ho] at h
  split at h
  · cases h
  · rename_i hn
    by_cases h0 : s.vr.get x.imm.toNat = 0
    · exact .inl h0
    · exact .inr (Decidable.byContradiction fun h1 => hn ⟨h0, h1⟩)
/-- the widths of variables behind Add -/
theorem adds_vr : ∀ (L : List T.Nd) {s s' : Gr} {cl cl' : List Nat}, (∀ y ∈ L, y.op = 33 → y.imm.toNat < 4) → (∀ y ∈ L, 1 ≤ y.w ∧ y.w ≤ 32) → s.adds cl L = some (s', cl') →
    (∀ i, i < 4 → s.vr.get i ≠ 0 → s'.vr.get i = s.vr.get i) ∧ (∀ y ∈ L, y.op = 33 → s'.vr.get y.imm.toNat = y.w) ∧ ∀ i, i < 4 → s'.vr.get i = s.vr.get i ∨ (1 ≤ s'.vr.get i ∧ s'.vr.get i ≤ 32) := by
  intro L
  induction L with
  | nil =>
    intro s s' cl cl' _ _ h
    unfold Gr.adds at h
    cases h
    exact ⟨fun _ _ _ => rfl, (fun y hy => by cases hy), fun i _ => .inl rfl⟩
  | cons x L ih =>
    intro s s' cl cl' h4 hw h
    unfold Gr.adds at h
    cases hv : s.vars x with
    | none => rw [hv] at h; cases h
    | some s1 =>
      rw [hv] at h
      dsimp only at h
      have hvr : (s1.put (opOf cl x)).1.vr = s1.vr := (nm_put s1 _).2
      obtain ⟨a, b, c⟩ := ih (fun y hy => h4 y (List.mem_cons_of_mem _ hy)) (fun y hy => hw y (List.mem_cons_of_mem _ hy)) h
      have hx4 := h4 x (List.mem_cons_self ..)
      have hv2 := vars_vr2 hx4 hv
      have hxw := hw x (List.mem_cons_self ..)
      rw [hvr] at a c
      refine ⟨fun i hi h0 => ?_, fun y hy ho => ?_, fun i hi => ?_⟩
      · have e : s1.vr.get i = s.vr.get i := by
          rw [hv2 i hi]
          split
          · rename_i hc
            rcases vars_ok hv hc.1 with g | g
            · rw [hc.2] at h0; exact absurd g h0
            · rw [hc.2, g]
          · rfl
        rw [a i hi (by rw [e]; exact h0), e]
      · rcases List.mem_cons.1 hy with rfl | hy
        · have e := hv2 _ (hx4 ho)
          rw [if_pos ⟨ho, rfl⟩] at e
          rw [a _ (hx4 ho) (by rw [e]; omega), e]
        · exact b y hy ho
      · rcases c i hi with g | g
        · rw [g, hv2 i hi]
          split
          · exact .inr hxw
          · exact .inl rfl
        · exact .inr g
theorem puts_var : ∀ (M : List T.Nd) {s : Gr} {cl : List Nat}, ∀ e ∈ (s.puts cl M).1.es, e ∈ s.es ∨ ∃ y ∈ M, e.1.op = y.op ∧ e.1.imm = y.imm ∧ e.1.w = y.w := by
  intro M
  induction M with
  | nil => intro s cl e he; exact .inl he
  | cons x M ih =>
    intro s cl e he
    unfold Gr.puts at he
    rcases ih e he with h | ⟨y, hy, h⟩
    · cases hc : AL.get s.es (can s.p (opOf cl x)) with
      | some c => rw [Gr.put_some hc] at h; exact .inl h
      | none =>
        rw [Gr.put_none hc] at h
        rcases List.mem_append.1 h with h | h
        · exact .inl h
        · simp at h; subst h; exact .inr ⟨x, List.mem_cons_self .., rfl, rfl, rfl⟩
    · exact .inr ⟨y, List.mem_cons_of_mem _ hy, h⟩
theorem Typ.add {s s' : Gr} {t : List T.Nd} {no er : Int} (h : Typ s) (v : TypV s) (ok : s.Ok) (hi : ∀ x ∈ t, 0 ≤ x.imm ∧ x.imm < 4294967296) (a : AddR s t s' no er) : Typ s' ∧ TypV s' := by
  rcases a with ⟨_, rfl, _⟩ | ⟨hv, f, hf, e⟩
  · exact ⟨h, v⟩
  have hL : VL (T.canon f) := ⟨canon_valid hv hf, fun x hx => (canon_ok (valid_ok hv).2.2.1 hi hf x hx).2⟩
  have hLk := canon_ok (valid_ok hv).2.2.1 hi hf
  have h4 : ∀ y ∈ T.canon f, y.op = 33 → y.imm.toNat < 4 := fun y hy ho => by
    have := ((hLk y hy).1.var ho).1
    have := (hLk y hy).2.1
    omega
  unfold Gr.addT at e
  cases ha : s.adds [] (T.canon f) with
  | none =>
    rw [ha] at e
    cases e
    exact ⟨h, v⟩
  | some r =>
    obtain ⟨s1, cl1⟩ := r
    rw [ha] at e
    dsimp only at e
    split at e
    · cases e; exact ⟨h, v⟩
    · cases e
      obtain ⟨e1, e2⟩ := adds_puts _ ha
      obtain ⟨v1, v2, v3⟩ := adds_vr _ h4 (fun y hy => (hLk y hy).1.w) ha
      have ht := puts_typ hL (T.canon f) (k := 0) (cl := []) h ok rfl (fun c hc => by cases hc) (fun j y hj => absurd hj (Nat.not_lt_zero _)) rfl
      have hes : s1.es = (s.puts [] (T.canon f)).1.es := by rw [e1]
      have ht1 : Typ s1 := by rw [e1]; exact ⟨ht.ty, ht.cw, ht.rw, ht.gr, ht.cl⟩
      refine ⟨⟨ht1.ty, ht1.cw, ht1.rw, ht1.gr, ht1.cl⟩, fun k hk ho => ?_, fun i hi => ?_⟩
      · have hk' : k ∈ (s.puts [] (T.canon f)).1.es := hes ▸ hk
        rcases puts_var _ k hk' with hk2 | ⟨y, hy, o1, o2, o3⟩
        · have hw := v.vr k hk2 ho
          have hn : k.1.w ≠ 0 := by have := (h.ty k hk2).w; omega
          have hlt : k.1.imm.toNat < 4 := by
            have := (h.ty k hk2).im
            have h0 := (h.ty k hk2).i0
            unfold T.immOk at this
            rw [if_neg (by dsimp only; omega), if_pos ho] at this
            have := of_decide_eq_true this
            have e : k.1.imm < 4 := this
            omega
          show s1.vr.get _ = _
          rw [v1 _ hlt (by rw [hw]; exact hn), hw]
        · show s1.vr.get _ = _
          rw [o2, v2 y hy (o1.symm.trans ho), o3]
      · show s1.vr.get i = 0 ∨ _
        rcases v3 i hi with g | g
        · have g' : s1.vr.get i = s.vr.get i := g
          show s1.vr.get i = 0 ∨ 1 ≤ s1.vr.get i ∧ s1.vr.get i ≤ 32
          rw [g']; exact v.vw i hi
        · exact .inr g
theorem Typ.uni {s : Gr} {x y er : Int} {p1 : List Nat} {es1 : List (Opn × Nat)} (h : Typ s) (v : TypV s) (ok : s.Ok) (u : UniR s.p s.wd s.es s.nm x y er p1 es1) : Typ { s with p := p1, es := es1 } ∧ TypV { s with p := p1, es := es1 } := by
  cases u with
  | none _ => exact ⟨h, v⟩
  | type _ _ => exact ⟨h, v⟩
  | ok g w hs hd =>
    rw [Bool.and_eq_true] at g
    have lx := nr_lt (p := s.p) ok.nm g.1
    have ly := nr_lt (p := s.p) ok.nm g.2
    obtain ⟨jd, jl, jr⟩ := join_spec ok.down lx ly
    obtain ⟨jc, je⟩ := join_coarse ok.down lx ly
    obtain ⟨R, hR⟩ : ∃ R : Nat → Nat → Prop, R = fun a b => a = b ∨ (a < s.p.length ∧ b < s.p.length ∧ s.wd.getD a 0 = s.wd.getD b 0) := ⟨_, rfl⟩
    have hq : Eqv R := by
      rw [hR]
      refine ⟨fun a => .inl rfl, fun a b h => ?_, fun a b c h k => ?_⟩
      · rcases h with h | ⟨h1, h2, h3⟩
        · exact .inl h.symm
        · exact .inr ⟨h2, h1, h3.symm⟩
      · rcases h with rfl | ⟨h1, h2, h3⟩
        · exact k
        · rcases k with rfl | ⟨k1, k2, k3⟩
          · exact .inr ⟨h1, h2, h3⟩
          · exact .inr ⟨h1, k2, h3.trans k3⟩
    have hs0 : Sound R s.p := fun c => by
      rw [hR]
      rcases Nat.lt_or_ge c s.p.length with hc | hc
      · exact .inr ⟨hc, root_lt hc, (h.rw c hc).symm⟩
      · exact .inl (root_of_fix (getD_out hc)).symm
    have hxy : R (nr s.p s.nm x) (nr s.p s.nm y) := by rw [hR]; exact .inr ⟨lx, ly, w⟩
    have hs1 := sound_join hq ok.down hs0 lx ly hxy
    have hw2 : ∀ a b, R a b → s.wd.getD a 0 = s.wd.getD b 0 := fun a b r => by
      rw [hR] at r
      rcases r with rfl | ⟨_, _, r⟩
      · rfl
      · exact r
    have hcg : Cong R s.es := fun a ha b hb sm => by
      have e := sm.1.2.1
      rw [hR]
      exact .inr ⟨ok.inn a ha, ok.inn b hb, by rw [h.cw a ha, h.cw b hb, e]⟩
    have hrf : ∀ a : Int, Rel R a a := fun a => by
      rcases Int.lt_or_le a 0 with h | h
      · exact .inl ⟨h, rfl⟩
      · exact .inr ⟨h, h, hq.refl _⟩
    obtain ⟨s1, s2⟩ := hs.mid.sound R s.es hq hcg hs1 fun e he => ⟨e, he, ⟨⟨rfl, rfl, rfl⟩, hrf _, hrf _, hrf _⟩, hq.refl _⟩
    have hlen : p1.length = s.p.length := hs.mid.len.trans jl
    refine ⟨⟨fun k hk => ?_, fun k hk => ?_, fun c hc => ?_, fun c hc => ?_, fun k hk => hs.cls k hk⟩, fun k hk ho => ?_, v.vw⟩
    · obtain ⟨a, ha, sm, _⟩ := s2 k hk
      refine (h.ty a ha).sim ⟨sm.1.1.symm, sm.1.2.1.symm, sm.1.2.2.symm⟩ fun i _ => ?_
      rcases arg_rel sm i with ⟨c1, c2⟩ | ⟨c1, c2, c3⟩
      · exact .inl ⟨c2 ▸ c1, c2⟩
      · exact .inr ⟨c2, c1, hw2 _ _ c3⟩
    · obtain ⟨a, ha, sm, r⟩ := s2 k hk
      show s.wd.getD k.2 0 = k.1.w
      rw [hw2 _ _ r, h.cw a ha, sm.1.2.1]
    · exact (hw2 _ _ (s1 c)).symm
    · have hc' : c < s.p.length := hlen ▸ hc
      exact ((h.gr c hc').coarse jc fun e he => he).mid hs.mid
    · obtain ⟨a, ha, sm, r⟩ := s2 k hk
      show s.vr.get _ = _
      rw [sm.1.2.2, sm.1.2.1]
      exact v.vr a ha (sm.1.1.symm.trans ho)
theorem Made.typ {s r : Gr} (h : Made s r) : Typ s ∧ TypV s := by
  induction h with
  | new =>
    refine ⟨⟨(fun e he => by cases he), (fun e he => by cases he), (fun c hc => by simp [Gr.new] at hc), (fun c hc => by simp [Gr.new] at hc), (fun e he => by cases he)⟩, (fun e he => by cases he), fun i hi => .inl ?_⟩
    rcases (show i = 0 ∨ i = 1 ∨ i = 2 ∨ i = 3 by omega) with rfl | rfl | rfl | rfl <;> rfl
  | add h hi a b ok1 ok2 ih => exact ih.1.add ih.2 h.two.s.ok hi a
  | uni h u v ok1 ok2 ih => exact ih.1.uni ih.2 h.two.s.ok u
end E
end Go.Proofs.YtcmlmjbpdaecbaaGreat
end
