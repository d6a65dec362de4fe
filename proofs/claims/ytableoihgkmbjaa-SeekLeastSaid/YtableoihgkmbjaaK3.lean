/- Walks of the reference's layer of rows: steps. -/
import Derived.Test.YtableoihgkmbjaaK2
namespace Go.Proofs.Ytableoihgkmbjaa
open Go.RowKit
set_option linter.unusedVariables false

theorem flatMap_at {α β : Type} {f : α → List β} {m : Nat} (hm : ∀ x, (f x).length = m) : ∀ (l : List α) (i j : Nat), j < m → (l.flatMap f)[i * m + j]? = (l[i]?).bind fun x => (f x)[j]?
  | [], i, j, _ => by simp
  | x :: l, 0, j, h => by
    rw [List.flatMap_cons, Nat.zero_mul, Nat.zero_add, List.getElem?_append_left (by rw [hm]; exact h)]; rfl
  | x :: l, i + 1, j, h => by
    rw [List.flatMap_cons, List.getElem?_append_right (by rw [hm, Nat.succ_mul]; omega), hm, show (i + 1) * m + j - m = i * m + j by rw [Nat.succ_mul]; omega, flatMap_at hm l i j h]
    simp
theorem flatMap_len {α β : Type} {f : α → List β} {m : Nat} (hm : ∀ x, (f x).length = m) : ∀ (l : List α), (l.flatMap f).length = l.length * m
  | [] => by simp
  | x :: l => by rw [List.flatMap_cons, List.length_append, hm, flatMap_len hm l, List.length_cons, Nat.succ_mul]; omega

theorem steps_at {k p oi a b : Nat} {o : Int} (ho : K.ops[oi]? = some o) (ha : a < k + 2 + p) (hb : b < k + 2 + p) : (K.steps k p)[oi * ((k + 2 + p) * (k + 2 + p)) + (a * (k + 2 + p) + b)]? = some (o, (a : Int), (b : Int)) := by
  unfold K.steps
  have h1 : ∀ (o : Int) (a : Nat), ((List.range (k + 2 + p)).map fun b : Nat => ((o, (a : Int), (b : Int)) : K.Stp)).length = k + 2 + p := by intro o a; simp
  have h2 : ∀ o : Int, ((List.range (k + 2 + p)).flatMap fun a : Nat => (List.range (k + 2 + p)).map fun b : Nat => ((o, (a : Int), (b : Int)) : K.Stp)).length = (k + 2 + p) * (k + 2 + p) := by
    intro o
    rw [flatMap_len (h1 o)]; simp
  have hlt : a * (k + 2 + p) + b < (k + 2 + p) * (k + 2 + p) := by
    have : (a + 1) * (k + 2 + p) ≤ (k + 2 + p) * (k + 2 + p) := Nat.mul_le_mul_right _ ha
    rw [Nat.succ_mul] at this
    omega
  rw [flatMap_at h2 K.ops oi _ hlt, ho, Option.bind_some, flatMap_at (h1 o) _ a b hb, List.getElem?_range ha, Option.bind_some, List.getElem?_map, List.getElem?_range hb]
  rfl
theorem steps_length (k p : Nat) : (K.steps k p).length = 7 * ((k + 2 + p) * (k + 2 + p)) := by
  unfold K.steps
  rw [flatMap_len (m := (k + 2 + p) * (k + 2 + p))]
  · rfl
  · intro o
    rw [flatMap_len (m := k + 2 + p)]
    · simp
    · intro a; simp

/-- the cells of a step, of steps -/
def cellsS (s : K.Stp) : List Value := [.int .i64 s.1, .int .i64 s.2.1, .int .i64 s.2.2]
def flatS (l : List K.Stp) : List Value := l.flatMap cellsS
theorem flatS_len (l : List K.Stp) : (flatS l).length = l.length * 3 := flatMap_len (m := 3) (fun _ => rfl) l
theorem flatS_snoc (l : List K.Stp) (s : K.Stp) : flatS (l ++ [s]) = flatS l ++ cellsS s := by unfold flatS; rw [List.flatMap_append]; simp
theorem flatS_at (l : List K.Stp) {k : Nat} {s : K.Stp} (h : l[k]? = some s) : ((flatS l).drop (k * 3)).take 3 = cellsS s := by
  apply List.ext_getElem?
  intro j
  rw [List.getElem?_take]
  split
  · rename_i hj
    rw [List.getElem?_drop, flatS, flatMap_at (m := 3) (fun _ => rfl) l k j hj, h]; rfl
  · rename_i hj
    rw [List.getElem?_eq_none (by show 3 ≤ j; omega)]
def StepR (_ : World) (us : List Value) (s : K.Stp) : Prop := us = cellsS s
theorem monoStep : MonoL StepR := fun _ _ _ _ _ h => h
/-- a row of steps that the call itself has made -/
def RowS (w : World) (u : Value) (x : List K.Stp) : Prop := OwnAt w 42 3 u x.length (flatS x)
/-- a slice of steps -/
def SlS (w : World) (u : Value) (x : List K.Stp) : Prop := ∃ A c, u = .slice A x.length c ∧ StAt 3 StepR w A x.length x
theorem monoSlS : MonoR SlS := by
  rintro w w' u xs hb ⟨A, c, rfl, h⟩
  exact ⟨A, c, rfl, h.below monoStep hb⟩
theorem OwnAt.steps {w : World} {A : Option Addr} {n c : Nat} {x : List K.Stp} (h : OwnAt w 42 3 (.slice A n c) n (flatS x)) (hn : x.length = n) : StAt 3 StepR w A n x :=
  h.stAt hn fun k s hk => flatS_at x hk
theorem RowS.slS {w : World} {u : Value} {x : List K.Stp} (h : RowS w u x) : SlS w u x := by
  have h' : OwnAt w 42 3 u x.length (flatS x) := h
  obtain ⟨A, c, rfl⟩ := h'.form
  exact ⟨A, c, rfl, h'.steps rfl⟩
theorem RowS.elems {w : World} {us : List Value} {xs : List (List K.Stp)} (h : Elems RowS w us xs) : Elems SlS w us xs := h.map_ fun u x hu => RowS.slS hu

/-- 'append(out, u)' of one element of several cells. -/
theorem wpList_append_cells {P : Program} {w : World} {ops : Array Oper} {rest : List Oper} {o : Oper} {a : Act} {Q : Exit → Act → World → Prop} (hgd : o.guard = none) (sx x : Operand) (t : TypeId)
    (ho : o.op = .call { callee := .builtin .append, args := #[sx, x], argTypes := #[t, t] })
    (e : TypeId) (z : Value) (s bytes : Nat) (ht : P.underlying t = some (.slice e)) (hinfo : (P.info? e).map (fun i => (i.zero, i.size, i.bytes)) = some (some z, s, bytes)) (hzs : z.cells.size = s)
    (v : Value) (n : Nat) (xs : List Value) (hs : a.eval sx = v) (hown : OwnAt w e s v n xs) (cs : Array Value) (hcs : cs.size = s) (h1 : ∀ u ∈ cs.toList, u.oneCell' = true) (E : TypeId) (p : Nat) (hp : p = w.heap.size)
    (hx : a.eval x = .slice (some ⟨p, 0, none⟩) 1 1) (hn : n ≤ 1000000000) (hb : bytes ≤ 64)
    (h : ∀ v' w', OwnAt w' e s v' (n + 1) (xs ++ cs.toList) → (w.alloc (.cells cs E)).grownBy w' v.ownBlock → (v'.ownBlock = v.ownBlock ∨ v'.ownBlock = some (w.heap.size + 1)) → wpList P ops Q rest (a.put o.dst v') w') :
    wpList P ops Q (o :: rest) a (w.alloc (.cells cs E)) := by
  subst hp
  obtain ⟨i, hi, hz, hsz, hby⟩ := info_parts hinfo
  have hmul : (n + 1) * bytes ≤ (n + 1) * 64 := Nat.mul_le_mul_left _ hb
  refine wpList_append_at _ hgd sx x t ho e i z s bytes ht hi hz hsz hby hzs v n xs hs (hown.alloc _) _ 1 1 cs.toList hx (by simpa using hcs) (fun j u hu => ?_) h1 (by simp only [maxLen]; omega) (by omega) ?_
  · rw [addr_add_zero, Nat.zero_add, cell_of_row _ _ _ cs E (0, 0) (heap_alloc_new w _)]
    simpa using hu
  · intro v' w' h2 h3 h4
    exact h v' w' h2 h3 (by simpa using h4)

set_option maxRecDepth 100000 in
set_option maxHeartbeats 4000000 in
theorem rsteps_any (k p : Nat) (hk : k ≤ 2) (hp : p ≤ 2) (W : World) :
    Calls Try.prog 32 #[.int .i64 k, .int .i64 p] W fun e w' => ∃ A c, e = .returned (.slice A (K.steps k p).length c) ∧ StAt 3 StepR w' A (K.steps k p).length (K.steps k p) ∧ Below W.heap.size W w' := by
  have hsl := K.steps_len hk hp
  have hlen := steps_length k p
  have HA := Lib.hid (fun oi a b o h1 h2 h3 => steps_at (k := k) (p := p) (oi := oi) (a := a) (b := b) (o := o) h1 h2 h3)
  obtain ⟨M, hM⟩ : ∃ M, M = k + 2 + p := ⟨_, rfl⟩
  rw [← hM] at HA hlen
  have hMi : (k : Int) + 2 + (p : Int) = (M : Int) := by omega
  obtain ⟨S, hS⟩ : ∃ S, S = K.steps k p := ⟨_, rfl⟩
  rw [← hS] at HA hlen hsl ⊢
  have Hlen := Lib.hid hlen; clear hlen hS
  have HMi := Lib.hid hMi; clear hMi
  have HM := Lib.hid hM; clear hM
  have HO := Lib.hid (fun W => rops_any W)
  have hM0 : 0 < M := by have := HM.out; omega
  go_enter Try.func32, Try.ntmps32
  go_wp2_with fail
  refine (HO.out _).mono ?_
  rintro e w1 ⟨c1, rfl, hops, hb1⟩
  have Hops := Lib.hid hops; clear hops
  have Hb1 := Lib.hid hb1; clear hb1
  go_wp2
  go_loopg [5, 7] (7 + 1) (fun g v i wr => ∃ (q : Nat), q ≤ 7 ∧ i = .int .i64 (q : Int) ∧ g + q = 7 + 1 ∧ OwnAt wr 42 3 v (q * (M * M)) (flatS (S.take (q * (M * M)))) ∧ Below w1.heap.size w1 wr ∧ (∀ g, v.ownBlock = some g → w1.heap.size ≤ g))
  case atStart => exact ⟨0, by omega, rfl, rfl, by simpa [flatS] using OwnAt.nil_ _ _ _, Below.refl _ _, fun g hg => by simp [Value.ownBlock] at hg⟩
  case round =>
    obtain ⟨q, hq, rfl, hgk, hown, hbw, hob⟩ := hrel
    have Hgk := Lib.hid hgk; clear hgk
    have Hown := Lib.hid hown; clear hown
    have Hob := Lib.hid hob; clear hob
    obtain ⟨gO, hgO⟩ : ∃ g, g = gk := ⟨_, rfl⟩
    subst hgO
    by_cases hlq : q < 7
    · obtain ⟨o, b9, off9, u9, ho, hA9, _, h19, hu9⟩ := Hops.out.at_ hlq
      injection hA9 with hA9
      injection hA9 with hA9 hA9'
      subst hu9
      subst hA9
      subst hA9'
      have Ho := Lib.hid ho; clear ho
      have hb9 : W.heap.size < w1.heap.size := World.block_lt_of_cell? _ _ h19
      go_wp2
      go_loopg [5, 8] (M + 1) (fun g v i wr => ∃ (a : Nat), a ≤ M ∧ i = .int .i64 (a : Int) ∧ g + a = M + 1 ∧ OwnAt wr 42 3 v (q * (M * M) + a * M) (flatS (S.take (q * (M * M) + a * M))) ∧ Below w1.heap.size w1 wr ∧ (∀ g, v.ownBlock = some g → w1.heap.size ≤ g))
      case atStart => exact ⟨0, by omega, rfl, rfl, by simpa using Hown.out, hbw, Hob.out⟩
      case round =>
        clear Hown Hob hbw
        obtain ⟨a, ha, rfl, hgk, hown, hbw, hob⟩ := hrel
        have Hgk2 := Lib.hid hgk; clear hgk
        have Hown := Lib.hid hown; clear hown
        have Hob := Lib.hid hob; clear hob
        obtain ⟨gP, hgP⟩ : ∃ g, g = gk := ⟨_, rfl⟩
        subst hgP
        by_cases hla : a < M
        · have hla' : (a : Int) < (k : Int) + 2 + (p : Int) := by have := HM.out; omega
          go_wp2
          go_loopg [5, 9] (M + 1) (fun g v i wr => ∃ (b : Nat), b ≤ M ∧ i = .int .i64 (b : Int) ∧ g + b = M + 1 ∧ OwnAt wr 42 3 v (q * (M * M) + (a * M + b)) (flatS (S.take (q * (M * M) + (a * M + b)))) ∧ Below w1.heap.size w1 wr ∧ (∀ g, v.ownBlock = some g → w1.heap.size ≤ g))
          case atStart => exact ⟨0, by omega, rfl, rfl, by simpa using Hown.out, hbw, Hob.out⟩
          case round =>
            clear Hown Hob hbw
            obtain ⟨b, hb, rfl, hgk, hown, hbw, hob⟩ := hrel
            have Hgk3 := Lib.hid hgk; clear hgk
            have Hown := Lib.hid hown; clear hown
            have Hob := Lib.hid hob; clear hob
            by_cases hlb : b < M
            · have hlb' : (b : Int) < (k : Int) + 2 + (p : Int) := by have := HM.out; omega
              have hat := HA.out q a b o Ho.out hla hlb
              have hidx : q * (M * M) + (a * M + b) ≤ 252 := by have := (List.getElem?_eq_some_iff.1 hat).1; omega
              have Hat := Lib.hid hat; clear hat
              have hc9 : wr.cell? ⟨W.heap.size, 0 + q, none⟩ = some (.int .i64 o) := (hbw.cell (p := ⟨W.heap.size, 0 + q, none⟩) hb9).trans h19
              rw [Nat.zero_add] at hc9
              go_wp2_with (at_builtin; refine wpList_append_cells rfl (.tmp 33) (.tmp 41) 26 rfl 42 (.agg #[.int .i64 0, .int .i64 0, .int .i64 0]) 3 24 Try.underlying26 infoStep rfl _ _ _ rfl Hown.out #[.int .i64 o, .int .i64 (a : Int), .int .i64 (b : Int)] rfl (by simp [Value.oneCell']) 42 wr.heap.size rfl rfl (by omega) (by omega) ?_; intro v' w3 hown' hgr hat2)
              have hown2 : OwnAt w3 42 3 v' (q * (M * M) + (a * M + (b + 1))) (flatS (S.take (q * (M * M) + (a * M + (b + 1))))) := by
                have e1 : q * (M * M) + (a * M + (b + 1)) = q * (M * M) + (a * M + b) + 1 := by omega
                rw [e1, K.take_succ_at Hat.out, flatS_snoc]
                exact hown'
              have Hown' := Lib.hid hown2; clear hown' hown2
              obtain ⟨hb3, hv3⟩ := below_append hbw hbw.size Hob.out hgr hat2
              have Hv3 := Lib.hid hv3; clear hv3 hgr hat2
              have Hb3 := Lib.hid hb3; clear hb3 hc9 hidx
              go_wp2
              go_roundg (gk - 1)
              case measure => have := Hgk3.out; omega
              case rel => have := Hgk3.out; exact ⟨b + 1, by omega, by go_num, by omega, Hown'.out, Hb3.out, Hv3.out⟩
            · obtain rfl : b = M := by omega
              have hlb' : ¬ (b : Int) < (k : Int) + 2 + (p : Int) := by have := HM.out; omega
              have hown2 := Hown.out
              rw [show q * (b * b) + (a * b + b) = q * (b * b) + (a + 1) * b by rw [Nat.succ_mul]] at hown2
              have Hown2 := Lib.hid hown2; clear hown2 Hown
              go_wp2
              go_roundg (gP - 1)
              case measure => have := Hgk2.out; omega
              case rel => have := Hgk2.out; exact ⟨a + 1, by omega, by go_num, by omega, Hown2.out, hbw, Hob.out⟩
        · obtain rfl : a = M := by omega
          have hla' : ¬ (a : Int) < (k : Int) + 2 + (p : Int) := by have := HM.out; omega
          have hown2 := Hown.out
          rw [show q * (a * a) + a * a = (q + 1) * (a * a) by rw [Nat.succ_mul]] at hown2
          have Hown2 := Lib.hid hown2; clear hown2 Hown
          go_wp2
          go_roundg (gO - 1)
          case measure => have := Hgk.out; omega
          case rel => have := Hgk.out; exact ⟨q + 1, by omega, by go_num, by omega, Hown2.out, hbw, Hob.out⟩
    · obtain rfl : q = 7 := by omega
      have hown2 := Hown.out
      rw [← Hlen.out, List.take_length] at hown2
      have Hown2 := Lib.hid hown2; clear hown2 Hown
      obtain ⟨A, c, hv⟩ := Hown2.out.form
      subst hv
      go_wp2
      go_ret
      exact ⟨A, c, by rw [Hlen.out]; rfl, Hown2.out.steps rfl, Hb1.out.trans (hbw.mono Hb1.out.size)⟩
end Go.Proofs.Ytableoihgkmbjaa
