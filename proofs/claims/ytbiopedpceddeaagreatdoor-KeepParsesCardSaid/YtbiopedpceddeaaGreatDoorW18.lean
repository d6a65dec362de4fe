/- Merged: C4Y2, C4OpenD, C4PK1, C4PK2. -/
import Derived.Test.YtbiopedpceddeaaGreatDoorW17
import Derived.Test.YtbiopedpceddeaaGreatDoorW02
import Derived.Test.YtbiopedpceddeaaGreatDoorRows
import Derived.Lib.LaidTab
import Derived.FnData
import Derived.Lib.ItoaNum
import Derived.Lib.Join
set_option linter.unusedVariables false
set_option linter.unusedSimpArgs false
section
namespace Go.Proofs.YtbiopedpceddeaaGreatDoor
open Go.RowKit
set_option linter.unusedVariables false
set_option linter.unusedSimpArgs false

theorem st_row {w : World} {g n : Nat} {ty : TypeId} {cells : Array Value} {xs : List T.Nd} (hr : w.heap[g]? = some (.cells cells ty (0, 0))) (hl : xs.length = n) (hn : n ≤ 100)
    (h : ∀ k x, xs[k]? = some x → ∃ A c, (∀ j u, (ndC x A c)[j]? = some u → cells[k * 5 + j]? = some u) ∧ SlAt (IntR .i64) w A x.args.length x.args ∧ 0 ≤ x.imm ∧ x.imm < 4294967296) : StAt 5 NdR w (some ⟨g, 0, none⟩) n xs := by
  refine ⟨hl, by omega, fun k x hx => ?_⟩
  obtain ⟨A, c, h1, h2, h3⟩ := h k x hx
  refine ⟨g, 0, ndC x A c, rfl, (Array.getElem?_eq_some_iff.1 hr).1, rfl, fun j u hu => ?_, A, c, rfl, h2, h3⟩
  rw [cell_of_row _ _ _ _ _ (0, 0) hr, show 0 + k * 5 + j = k * 5 + j by omega]
  exact h1 j u hu
theorem sl_row {w : World} {g : Nat} {ty : TypeId} {xs : List Int} (hr : w.heap[g]? = some (.cells (xs.map (Value.int .i64)).toArray ty (0, 0))) (hn : xs.length ≤ 100) : SlAt (IntR .i64) w (some ⟨g, 0, none⟩) xs.length xs := by
  refine ⟨rfl, by omega, fun k x hx => ⟨g, 0, .int .i64 x, rfl, (Array.getElem?_eq_some_iff.1 hr).1, ?_, rfl⟩⟩
  rw [cell_of_row _ _ _ _ _ (0, 0) hr, show 0 + k = k by omega]
  simp [hx]

theorem alloc_row {W w : World} {o : Obj} (h : W.alloc o = w) : w.heap[W.heap.size]? = some o ∧ w.heap.size = W.heap.size + 1 := by
  rw [← h]
  exact ⟨heap_alloc_new W o, by simp⟩
theorem row_step' {W w : World} {o o' : Obj} {g : Nat} (h : W.alloc o = w) (hr : W.heap[g]? = some o') : w.heap[g]? = some o' := by
  rw [← h]
  exact row_alloc hr _

end Go.Proofs.YtbiopedpceddeaaGreatDoor
end
section
namespace Go.Proofs.YtbiopedpceddeaaGreatDoor
open Go.ChangeShapes Go.WideShapes Go.ChangeAt Go.RowKit Go.Deep
set_option linter.unusedVariables false
set_option linter.unusedSimpArgs false

theorem cellsRule : Tryz.prog.cellsOf 33 = 3 := by kernel_rfl
theorem cellsNodes : Tryz.prog.cellsOf 22 = 1 := by kernel_rfl
theorem cellsConds : Tryz.prog.cellsOf 31 = 1 := by kernel_rfl
theorem cellsCond : Tryz.prog.cellsOf 88 = 3 := by kernel_rfl
/-- a node, and its flags' range -/
def NdRf (W : World) (us : List Value) (x : T.Nd) : Prop := NdR W us x ∧ -9223372036854775808 ≤ x.fl ∧ x.fl ≤ 9223372036854775807

theorem readsNodeF {H : Type} {enc : TypeId × Value → H} {W : World} {fs : Array Field} (hfs : fs.size = 5) (hty : ∀ (j : Nat) (f : Field), fs[j]? = some f → f.type = (#[3, 3, 3, 60, 26]).getD j 0) : ReadsSt enc Tryz.prog W fs NdRf := by
  intro n us hl hu
  have get : ∀ j, j < 5 → ∃ u y, us[j]? = some u ∧ DataW.trod enc Tryz.prog W 0 (fun _ => true) true n ((#[3, 3, 3, 60, 26]).getD j 0) [u] = some y := fun j hj => by
    have hj' : j < fs.size := by omega
    obtain ⟨u, y, h1, h2⟩ := hu j fs[j] (Array.getElem?_eq_getElem hj')
    rw [hty j _ (Array.getElem?_eq_getElem hj')] at h2
    exact ⟨u, y, h1, h2⟩
  obtain ⟨u0, y0, g0, h0⟩ := get 0 (by omega)
  obtain ⟨u1, y1, g1, h1⟩ := get 1 (by omega)
  obtain ⟨u2, y2, g2, h2⟩ := get 2 (by omega)
  obtain ⟨u3, y3, g3, h3⟩ := get 3 (by omega)
  obtain ⟨u4, y4, g4, h4⟩ := get 4 (by omega)
  obtain ⟨a, e0, _, _⟩ := DataW.trod_int Tryz.underlying3 h0
  obtain ⟨b, e1, _, _⟩ := DataW.trod_int Tryz.underlying3 h1
  obtain ⟨c, e2, _, hc⟩ := DataW.trod_int Tryz.underlying3 h2
  obtain ⟨l, A, cp, e3, s3⟩ := readsSl (enc := enc) (W := W) Tryz.underlying60 cellsIntN (readsInt Tryz.underlying3) n u3 y3 h3
  obtain ⟨d, e4, d0, d1⟩ := readsWord (enc := enc) (W := W) Tryz.underlying26 n u4 y4 h4
  have e0' := (List.cons.inj e0).1
  have e1' := (List.cons.inj e1).1
  have e2' := (List.cons.inj e2).1
  simp [Lit.wf, IntKind.min, IntKind.max, IntKind.signed, IntKind.bits] at hc
  rw [hfs] at hl
  refine ⟨⟨a, b, c, l, d⟩, ⟨A, cp, ?_, s3, d0, d1⟩, by show _ ≤ c; omega, by show c ≤ _; omega⟩
  match us, hl, g0, g1, g2, g3, g4 with
  | [v0, v1, v2, v3, v4], _, g0, g1, g2, g3, g4 =>
    simp at g0 g1 g2 g3 g4
    subst g0 g1 g2 g3 g4
    rw [e0', e1', e2', e3, e4]
    rfl

theorem stf {W : World} {A : Option Addr} {n : Nat} {xs : List T.Nd} (h : StAt 5 NdRf W A n xs) : StAt 5 NdR W A n xs ∧ R.flr xs := by
  refine ⟨⟨h.1, h.2.1, fun k x hx => ?_⟩, fun y hy => ?_⟩
  · obtain ⟨b, off, us, e1, e2, e3, e4, e5⟩ := h.2.2 k x hx
    exact ⟨b, off, us, e1, e2, e3, e4, e5.1⟩
  · obtain ⟨j, hj⟩ := List.mem_iff_getElem?.1 hy
    obtain ⟨b, off, us, e1, e2, e3, e4, e5⟩ := h.2.2 j y hj
    exact e5.2

theorem readsCond {H : Type} {enc : TypeId × Value → H} {W : World} {fs : Array Field} (hfs : fs.size = 3) (hty : ∀ (j : Nat) (f : Field), fs[j]? = some f → f.type = (#[3, 3, 26]).getD j 0) : ReadsSt enc Tryz.prog W fs CdR := by
  intro n us hl hu
  have get : ∀ j, j < 3 → ∃ u y, us[j]? = some u ∧ DataW.trod enc Tryz.prog W 0 (fun _ => true) true n ((#[3, 3, 26]).getD j 0) [u] = some y := fun j hj => by
    have hj' : j < fs.size := by omega
    obtain ⟨u, y, h1, h2⟩ := hu j fs[j] (Array.getElem?_eq_getElem hj')
    rw [hty j _ (Array.getElem?_eq_getElem hj')] at h2
    exact ⟨u, y, h1, h2⟩
  obtain ⟨u0, y0, g0, h0⟩ := get 0 (by omega)
  obtain ⟨u1, y1, g1, h1⟩ := get 1 (by omega)
  obtain ⟨u4, y4, g4, h4⟩ := get 2 (by omega)
  obtain ⟨a, e0, _, _⟩ := DataW.trod_int Tryz.underlying3 h0
  obtain ⟨b, e1, _, _⟩ := DataW.trod_int Tryz.underlying3 h1
  obtain ⟨d, e4, d0, d1⟩ := readsWord (enc := enc) (W := W) Tryz.underlying26 n u4 y4 h4
  have e0' := (List.cons.inj e0).1
  have e1' := (List.cons.inj e1).1
  rw [hfs] at hl
  refine ⟨⟨a, b, d⟩, ?_, d0, d1⟩
  match us, hl, g0, g1, g4 with
  | [v0, v1, v4], _, g0, g1, g4 =>
    simp at g0 g1 g4
    subst g0 g1 g4
    rw [e0', e1', e4]
    rfl

set_option maxRecDepth 100000 in
/-- nodes that came in, with their flags' range -/
theorem cells_nodes {H : Type} {enc : TypeId × Value → H} {W : World} {n : Nat} {u : Value} {x : DataW H × List MemPlace} (h : DataW.trod enc Tryz.prog W 0 (fun _ => true) true n 22 [u] = some x) :
    ∃ A m c xs, u = .slice A m c ∧ StAt 5 NdR W A m xs ∧ R.flr xs := by
  obtain ⟨A, m, c, xs, e, hs⟩ := stAt_of_cells (R := NdRf) Tryz.underlying22 Tryz.underlying62 (by kernel_rfl) cellsNode (by decide) (readsNodeF rfl (fun j f h => by rcases j with _ | _ | _ | _ | _ | j <;> simp at h <;> (subst h; rfl))) h
  exact ⟨A, m, c, xs, e, stf hs⟩

set_option maxRecDepth 100000 in
/-- a rule that came in -/
theorem open_rule {H : Type} {enc : TypeId × Value → H} {W : World} {r : Reach} {b0 : Nat} {v : Value} {d : DataW H} {ps : List MemPlace} (hval : Value.okWide Tryz.prog W r b0 33 v) (h : DataW.Trod enc Tryz.prog W 0 (fun _ => true) true 33 v d ps) :
    ∃ rl nl cl nr cr np cp AL AR AP, v = .agg #[.slice AL nl cl, .slice AR nr cr, .slice AP np cp] ∧ RlAt W rl nl nr np AL AR AP := by
  obtain ⟨u0, u1, u2, n, x0, x1, x2, rfl, g0, g1, g2⟩ := open_agg3 Tryz.underlying33 cellsRule rfl rfl rfl cellsNodes cellsNodes cellsConds hval h
  obtain ⟨AL, nl, cl, xl, rfl, sl, fl⟩ := cells_nodes g0
  obtain ⟨AR, nr, cr, xr, rfl, sr, fr⟩ := cells_nodes g1
  obtain ⟨AP, np, cp, xp, rfl, sp⟩ := stAt_of_cells (R := CdR) Tryz.underlying31 Tryz.underlying88 (by kernel_rfl) cellsCond (by decide) (readsCond rfl (fun j f h => by rcases j with _ | _ | _ | j <;> simp at h <;> (subst h; rfl))) g2
  exact ⟨⟨xl, xr, xp⟩, nl, cl, nr, cr, np, cp, AL, AR, AP, rfl, sl, sr, sp, fl, fr⟩

end Go.Proofs.YtbiopedpceddeaaGreatDoor
end
section
namespace Go.Proofs.YtbiopedpceddeaaGreatDoor
set_option linter.unusedVariables false
set_option linter.unusedSimpArgs false
namespace KT
open Go.Lib
theorem dec_ne (u : Nat) : decDigits u ≠ [] := by
  unfold decDigits
  split <;> simp
theorem toNat_dig {k : Nat} (h : k < 10) : (UInt8.ofNat (48 + k)).toNat = 48 + k := by
  rw [UInt8.toNat_ofNat']
  omega
theorem dec_dig (u : Nat) : ∀ b ∈ decDigits u, 48 ≤ b.toNat ∧ b.toNat ≤ 57 := by
  induction u using Nat.strongRecOn with
  | _ u ih =>
    unfold decDigits
    split
    · rename_i h
      intro b hb
      simp only [List.mem_singleton] at hb
      subst hb
      rw [toNat_dig h]
      omega
    · rename_i h
      intro b hb
      rcases List.mem_append.1 hb with hb | hb
      · exact ih _ (by omega) b hb
      · simp only [List.mem_singleton] at hb
        subst hb
        rw [toNat_dig (by omega)]
        omega
def val (l : List UInt8) : Nat := l.foldl (fun a b => 10 * a + (b.toNat - 48)) 0
theorem val_app (l : List UInt8) (b : UInt8) : val (l ++ [b]) = 10 * val l + (b.toNat - 48) := by
  unfold val
  rw [List.foldl_append]
  rfl
theorem val_dec (u : Nat) : val (decDigits u) = u := by
  induction u using Nat.strongRecOn with
  | _ u ih =>
    unfold decDigits
    split
    · rename_i h
      show 10 * 0 + ((UInt8.ofNat (48 + u)).toNat - 48) = u
      rw [toNat_dig h]
      omega
    · rename_i h
      rw [val_app, ih _ (by omega), toNat_dig (by omega)]
      omega
theorem dec_inj {u v : Nat} (h : decDigits u = decDigits v) : u = v := by
  rw [← val_dec u, ← val_dec v, h]
theorem itoa_inj {a b : Int} (h : itoa a = itoa b) : a = b := by
  have hd : ∀ u v : Nat, (45 : UInt8) :: decDigits u ≠ decDigits v := fun u v e => by
    have := dec_dig v 45 (by rw [← e]; simp)
    have h45 : (45 : UInt8).toNat = 45 := rfl
    omega
  unfold itoa at h
  split at h <;> split at h
  · have := dec_inj (List.cons.inj h).2; omega
  · exact absurd h (hd _ _)
  · exact absurd h.symm (hd _ _)
  · have := dec_inj h; omega
theorem itoa_byte (n : Int) : ∀ b ∈ itoa n, b.toNat = 45 ∨ (48 ≤ b.toNat ∧ b.toNat ≤ 57) := by
  intro b hb
  unfold itoa at hb
  split at hb
  · rcases List.mem_cons.1 hb with rfl | hb
    · exact .inl rfl
    · exact .inr (dec_dig _ b hb)
  · exact .inr (dec_dig _ b hb)
theorem itoa_ne (n : Int) : itoa n ≠ [] := by
  unfold itoa
  split
  · simp
  · exact dec_ne _

/-- the first c parts two texts -/
theorem cut_eq {c : UInt8} : ∀ {x y A B : List UInt8}, c ∉ x → c ∉ y → x ++ c :: A = y ++ c :: B → x = y ∧ A = B := by
  intro x
  induction x with
  | nil =>
    intro y A B _ hy h
    cases y with
    | nil => simp at h; exact ⟨rfl, h⟩
    | cons b y => simp at h; exact absurd (by simp [h.1]) hy
  | cons a x ih =>
    intro y A B hx hy h
    cases y with
    | nil => simp at h; exact absurd (by simp [h.1]) hx
    | cons b y =>
      simp at h hx hy
      obtain ⟨rfl, h⟩ := h
      obtain ⟨rfl, rfl⟩ := ih hx.2 hy.2 h
      exact ⟨rfl, rfl⟩
/-- texts with a byte between them -/
def jn (c : UInt8) : List (List UInt8) → List UInt8
  | [] => []
  | [x] => x
  | x :: y :: l => x ++ c :: jn c (y :: l)
theorem jn_eq (c : UInt8) (xs : List (List UInt8)) : Go.Lib.join xs [c] = jn c xs := by
  unfold Go.Lib.join
  induction xs with
  | nil => rfl
  | cons x xs ih =>
    cases xs with
    | nil => simp [List.intercalate, jn]
    | cons y l =>
      rw [List.intercalate] at ih ⊢
      simp only [List.intersperse_cons_cons, List.flatten_cons, jn]
      rw [ih]
      rfl
theorem jn_mem {c b : UInt8} : ∀ {xs : List (List UInt8)}, b ∈ jn c xs → b = c ∨ ∃ x ∈ xs, b ∈ x := by
  intro xs
  induction xs with
  | nil => intro h; cases h
  | cons x xs ih =>
    intro h
    cases xs with
    | nil => exact .inr ⟨x, by simp, h⟩
    | cons y l =>
      simp only [jn] at h
      rcases List.mem_append.1 h with h | h
      · exact .inr ⟨x, by simp, h⟩
      · rcases List.mem_cons.1 h with h | h
        · exact .inl h
        · rcases ih h with h | ⟨z, hz, h⟩
          · exact .inl h
          · exact .inr ⟨z, List.mem_cons_of_mem _ hz, h⟩
theorem jn_inj {c : UInt8} : ∀ {xs ys : List (List UInt8)}, (∀ x ∈ xs, c ∉ x) → (∀ y ∈ ys, c ∉ y) → xs ≠ [] → ys ≠ [] → jn c xs = jn c ys → xs = ys := by
  intro xs
  induction xs with
  | nil => intro ys _ _ h; exact absurd rfl h
  | cons x xs ih =>
    intro ys hx hy _ hn h
    cases ys with
    | nil => exact absurd rfl hn
    | cons y ys =>
      have hx0 := hx x (by simp)
      have hy0 := hy y (by simp)
      cases xs with
      | nil =>
        cases ys with
        | nil => simp only [jn] at h; rw [h]
        | cons y' ys =>
          simp only [jn] at h
          exact absurd (by rw [h]; simp) hx0
      | cons x' xs =>
        cases ys with
        | nil =>
          simp only [jn] at h
          exact absurd (by rw [← h]; simp) hy0
        | cons y' ys =>
          simp only [jn] at h
          obtain ⟨e1, h2⟩ := cut_eq hx0 hy0 h
          subst e1
          have := ih (fun z hz => hx z (List.mem_cons_of_mem _ hz)) (fun z hz => hy z (List.mem_cons_of_mem _ hz)) (by simp) (by simp) h2
          rw [this]
/-- numbers as a text -/
def nums (l : List Int) : List UInt8 := jn 44 (l.map itoa)
theorem nums_byte (l : List Int) : ∀ b ∈ nums l, b.toNat = 44 ∨ b.toNat = 45 ∨ (48 ≤ b.toNat ∧ b.toNat ≤ 57) := by
  intro b hb
  rcases jn_mem hb with rfl | ⟨x, hx, hb⟩
  · exact .inl rfl
  · obtain ⟨n, _, rfl⟩ := List.mem_map.1 hx
    exact .inr (itoa_byte n b hb)
theorem nums_inj {l m : List Int} (hl : l ≠ []) (hm : m ≠ []) (h : nums l = nums m) : l = m := by
  have h44 : ∀ n : Int, (44 : UInt8) ∉ itoa n := fun n hb => by
    have := itoa_byte n 44 hb
    have e : (44 : UInt8).toNat = 44 := rfl
    omega
  have := jn_inj (c := 44) (xs := l.map itoa) (ys := m.map itoa) (fun x hx => by obtain ⟨n, _, rfl⟩ := List.mem_map.1 hx; exact h44 n) (fun x hx => by obtain ⟨n, _, rfl⟩ := List.mem_map.1 hx; exact h44 n) (by simpa using hl) (by simpa using hm) h
  exact (List.map_inj_right fun a b => itoa_inj).1 this
end KT
end Go.Proofs.YtbiopedpceddeaaGreatDoor
end
section
namespace Go.Proofs.YtbiopedpceddeaaGreatDoor
set_option linter.unusedVariables false
set_option linter.unusedSimpArgs false
namespace KT
def word (x : T.Nd) : List UInt8 := nums ([x.op, x.w, x.fl, x.imm] ++ x.args)
def sideT (L : List T.Nd) : List UInt8 := jn 32 (L.map word)
def preT : List (List Int) → List UInt8
  | [] => []
  | l :: t => [32, 105, 102, 32] ++ nums l ++ preT t
def keyT (l r : List T.Nd) (ps : List (List Int)) : List UInt8 := sideT l ++ [32, 61, 62, 32] ++ sideT r ++ preT ps
theorem word_byte (x : T.Nd) : ∀ b ∈ word x, b.toNat = 44 ∨ b.toNat = 45 ∨ (48 ≤ b.toNat ∧ b.toNat ≤ 57) := nums_byte _
theorem word_inj {x y : T.Nd} (h : word x = word y) : x = y := by
  have := nums_inj (by simp) (by simp) h
  obtain ⟨a, b, c, d, e⟩ := x
  obtain ⟨a', b', c', d', e'⟩ := y
  simp at this
  obtain ⟨rfl, rfl, rfl, rfl, rfl⟩ := this
  rfl
theorem sideT_byte (L : List T.Nd) : ∀ b ∈ sideT L, b.toNat = 32 ∨ b.toNat = 44 ∨ b.toNat = 45 ∨ (48 ≤ b.toNat ∧ b.toNat ≤ 57) := by
  intro b hb
  rcases jn_mem hb with rfl | ⟨x, hx, hb⟩
  · exact .inl rfl
  · obtain ⟨n, _, rfl⟩ := List.mem_map.1 hx
    exact .inr (word_byte n b hb)
theorem sideT_inj {L M : List T.Nd} (hL : L ≠ []) (hM : M ≠ []) (h : sideT L = sideT M) : L = M := by
  have h32 : ∀ x : T.Nd, (32 : UInt8) ∉ word x := fun x hb => by
    have := word_byte x 32 hb
    have e : (32 : UInt8).toNat = 32 := rfl
    omega
  have := jn_inj (c := 32) (xs := L.map word) (ys := M.map word) (fun x hx => by obtain ⟨n, _, rfl⟩ := List.mem_map.1 hx; exact h32 n) (fun x hx => by obtain ⟨n, _, rfl⟩ := List.mem_map.1 hx; exact h32 n) (by simpa using hL) (by simpa using hM) h
  exact (List.map_inj_right fun a b => word_inj).1 this
theorem preT_inj : ∀ {xs ys : List (List Int)} {A B : List UInt8}, (∀ x ∈ xs, x ≠ []) → (∀ y ∈ ys, y ≠ []) → (∀ b ∈ A, b.toNat ≠ 105) → (∀ b ∈ B, b.toNat ≠ 105) → A ++ preT xs = B ++ preT ys → A = B ∧ xs = ys := by
  have e105 : (105 : UInt8).toNat = 105 := rfl
  have split : ∀ (x : List Int) (t : List (List Int)) (A : List UInt8), A ++ preT (x :: t) = (A ++ [32]) ++ 105 :: ([102, 32] ++ nums x ++ preT t) := fun x t A => by simp [preT]
  intro xs
  induction xs with
  | nil =>
    intro ys A B _ _ hA hB h
    cases ys with
    | nil => simp [preT] at h; exact ⟨h, rfl⟩
    | cons y ys =>
      exfalso
      rw [split, preT, List.append_nil] at h
      exact hA 105 (by rw [h]; simp) e105
  | cons x xs ih =>
    intro ys A B hx hy hA hB h
    cases ys with
    | nil =>
      exfalso
      rw [split, preT, List.append_nil] at h
      exact hB 105 (by rw [← h]; simp) e105
    | cons y ys =>
      rw [split, split] at h
      have hs : ∀ (C : List UInt8), (∀ b ∈ C, b.toNat ≠ 105) → (105 : UInt8) ∉ C ++ [32] := fun C hC hm => by
        rcases List.mem_append.1 hm with hm | hm
        · exact hC _ hm e105
        · simp at hm
      obtain ⟨e1, e2⟩ := cut_eq (hs A hA) (hs B hB) h
      have eA : A = B := List.append_cancel_right e1
      have e3 : nums x ++ preT xs = nums y ++ preT ys := by simpa using e2
      have hn : ∀ l : List Int, ∀ b ∈ nums l, b.toNat ≠ 105 := fun l b hb => by have := nums_byte l b hb; omega
      obtain ⟨f1, f2⟩ := ih (fun z hz => hx z (List.mem_cons_of_mem _ hz)) (fun z hz => hy z (List.mem_cons_of_mem _ hz)) (hn x) (hn y) e3
      rw [nums_inj (hx x (by simp)) (hy y (by simp)) f1, f2]
      exact ⟨eA, rfl⟩
theorem keyT_inj {l r l' r' : List T.Nd} {ps ps' : List (List Int)} (h1 : l ≠ []) (h2 : r ≠ []) (h3 : l' ≠ []) (h4 : r' ≠ []) (hp : ∀ x ∈ ps, x ≠ []) (hp' : ∀ x ∈ ps', x ≠ []) (h : keyT l r ps = keyT l' r' ps') : l = l' ∧ r = r' ∧ ps = ps' := by
  unfold keyT at h
  have e61 : (61 : UInt8).toNat = 61 := rfl
  have hs : ∀ L : List T.Nd, (61 : UInt8) ∉ sideT L ++ [32] := fun L hm => by
    rcases List.mem_append.1 hm with hm | hm
    · have := sideT_byte L _ hm; omega
    · simp at hm
  have h' : (sideT l ++ [32]) ++ 61 :: ([62, 32] ++ sideT r ++ preT ps) = (sideT l' ++ [32]) ++ 61 :: ([62, 32] ++ sideT r' ++ preT ps') := by simpa using h
  obtain ⟨e1, e2⟩ := cut_eq (hs l) (hs l') h'
  have e3 : sideT r ++ preT ps = sideT r' ++ preT ps' := by simpa using e2
  have hn : ∀ L : List T.Nd, ∀ b ∈ sideT L, b.toNat ≠ 105 := fun L b hb => by have := sideT_byte L b hb; omega
  obtain ⟨f1, f2⟩ := preT_inj hp hp' (hn r) (hn r') e3
  exact ⟨sideT_inj h1 h3 (List.append_cancel_right e1), sideT_inj h2 h4 f1, f2⟩

/-- strictly ascending lists with the same members are equal -/
theorem asc_eq {α : Type} {lt : α → α → Prop} (irr : ∀ a, ¬ lt a a) (tr : ∀ a b c, lt a b → lt b c → lt a c) : ∀ {l m : List α}, l.Pairwise lt → m.Pairwise lt → (∀ x, x ∈ l ↔ x ∈ m) → l = m := by
  intro l
  induction l with
  | nil =>
    intro m _ _ h
    cases m with
    | nil => rfl
    | cons y m => exact absurd ((h y).2 (by simp)) (by simp)
  | cons x l ih =>
    intro m hl hm h
    cases m with
    | nil => exact absurd ((h x).1 (by simp)) (by simp)
    | cons y m =>
      rw [List.pairwise_cons] at hl hm
      have hxy : x = y := by
        rcases List.mem_cons.1 ((h x).1 (by simp)) with e | hx
        · exact e
        · rcases List.mem_cons.1 ((h y).2 (by simp)) with e | hy
          · exact e.symm
          · exact absurd (tr _ _ _ (hl.1 y hy) (hm.1 x hx)) (irr x)
      subst hxy
      rw [ih hl.2 hm.2 fun z => ?_]
      constructor
      · intro hz
        rcases List.mem_cons.1 ((h z).1 (List.mem_cons_of_mem _ hz)) with e | hz'
        · subst e; exact absurd (hl.1 z hz) (irr z)
        · exact hz'
      · intro hz
        rcases List.mem_cons.1 ((h z).2 (List.mem_cons_of_mem _ hz)) with e | hz'
        · subst e; exact absurd (hm.1 z hz) (irr z)
        · exact hz'
end KT
end Go.Proofs.YtbiopedpceddeaaGreatDoor
end
