/- Merged: RPK1, RPK2, RShelf. -/
import Derived.Lib.ItoaNum
import Derived.Lib.Join
import Derived.Test.YtbiopedpceddeaaGreatDoorL03
import Derived.Shelf.Strings.OnBuilder
import Derived.Shelf.Small.Wraps
import Derived.Shelf.Strings.BuilderK
import Derived.Shelf.Strconv.Itoa1
import Derived.Shelf.LaysM
import Derived.Shelf.Strconv.Itoa2
import Derived.Shelf.Strconv.Itoa3
import Derived.Ground.MpProg
import Derived.Shelf.Pu.ParseUintPublic10
import Derived.Shelf.Strings.Cut
import Derived.Shelf.Strings.Split
import Derived.Shelf.Slices.Equal
import Derived.Ground.Names2Prog
import Derived.Shelf.Slices.Empties2
import Derived.Test.YtbiopedpceddeaaGreatDoorProg
set_option linter.unusedVariables false
set_option linter.unusedSimpArgs false
section
namespace Go.Proofs.YtbiopedpceddeaaGreatDoor
set_option linter.unusedVariables false
set_option linter.unusedSimpArgs false
namespace KT
open Go.Lib
theorem toNat_dig {k : Nat} (h : k < 10) : (UInt8.ofNat (48 + k)).toNat = 48 + k := by
  rw [UInt8.toNat_ofNat']
  omega
theorem dec_dig (u : Nat) : ∀ b ∈ decDigits u, 48 ≤ b.toNat ∧ b.toNat ≤ 57 := by
  induction u using Nat.strongRecOn with
  | _ u ih =>
    unfold decDigits
    split
    · rename_i h
      intro b hb
      simp only [List.mem_singleton] at hb
      subst hb
      rw [toNat_dig h]
      omega
    · rename_i h
      intro b hb
      rcases List.mem_append.1 hb with hb | hb
      · exact ih _ (by omega) b hb
      · simp only [List.mem_singleton] at hb
        subst hb
        rw [toNat_dig (by omega)]
        omega
def val (l : List UInt8) : Nat := l.foldl (fun a b => 10 * a + (b.toNat - 48)) 0
theorem val_app (l : List UInt8) (b : UInt8) : val (l ++ [b]) = 10 * val l + (b.toNat - 48) := by
  unfold val
  rw [List.foldl_append]
  rfl
theorem val_dec (u : Nat) : val (decDigits u) = u := by
  induction u using Nat.strongRecOn with
  | _ u ih =>
    unfold decDigits
    split
    · rename_i h
      show 10 * 0 + ((UInt8.ofNat (48 + u)).toNat - 48) = u
      rw [toNat_dig h]
      omega
    · rename_i h
      rw [val_app, ih _ (by omega), toNat_dig (by omega)]
      omega
theorem dec_inj {u v : Nat} (h : decDigits u = decDigits v) : u = v := by
  rw [← val_dec u, ← val_dec v, h]
theorem itoa_inj {a b : Int} (h : itoa a = itoa b) : a = b := by
  have hd : ∀ u v : Nat, (45 : UInt8) :: decDigits u ≠ decDigits v := fun u v e => by
    have := dec_dig v 45 (by rw [← e]; simp)
    have h45 : (45 : UInt8).toNat = 45 := rfl
    omega
  unfold itoa at h
  split at h <;> split at h
  · have := dec_inj (List.cons.inj h).2; omega
  · exact absurd h (hd _ _)
  · exact absurd h.symm (hd _ _)
  · have := dec_inj h; omega
theorem itoa_byte (n : Int) : ∀ b ∈ itoa n, b.toNat = 45 ∨ (48 ≤ b.toNat ∧ b.toNat ≤ 57) := by
  intro b hb
  unfold itoa at hb
  split at hb
  · rcases List.mem_cons.1 hb with rfl | hb
    · exact .inl rfl
    · exact .inr (dec_dig _ b hb)
  · exact .inr (dec_dig _ b hb)
/-- the first c parts two texts -/
theorem cut_eq {c : UInt8} : ∀ {x y A B : List UInt8}, c ∉ x → c ∉ y → x ++ c :: A = y ++ c :: B → x = y ∧ A = B := by
  intro x
  induction x with
  | nil =>
    intro y A B _ hy h
    cases y with
    | nil => simp at h; exact ⟨rfl, h⟩
    | cons b y => simp at h; exact absurd (by simp [h.1]) hy
  | cons a x ih =>
    intro y A B hx hy h
    cases y with
    | nil => simp at h; exact absurd (by simp [h.1]) hx
    | cons b y =>
      simp at h hx hy
      obtain ⟨rfl, h⟩ := h
      obtain ⟨rfl, rfl⟩ := ih hx.2 hy.2 h
      exact ⟨rfl, rfl⟩
/-- texts with a byte between them -/
def jn (c : UInt8) : List (List UInt8) → List UInt8
  | [] => []
  | [x] => x
  | x :: y :: l => x ++ c :: jn c (y :: l)
theorem jn_eq (c : UInt8) (xs : List (List UInt8)) : Go.Lib.join xs [c] = jn c xs := by
  unfold Go.Lib.join
  induction xs with
  | nil => rfl
  | cons x xs ih =>
    cases xs with
    | nil => simp [List.intercalate, jn]
    | cons y l =>
      rw [List.intercalate] at ih ⊢
      simp only [List.intersperse_cons_cons, List.flatten_cons, jn]
      rw [ih]
      rfl
theorem jn_mem {c b : UInt8} : ∀ {xs : List (List UInt8)}, b ∈ jn c xs → b = c ∨ ∃ x ∈ xs, b ∈ x := by
  intro xs
  induction xs with
  | nil => intro h; cases h
  | cons x xs ih =>
    intro h
    cases xs with
    | nil => exact .inr ⟨x, by simp, h⟩
    | cons y l =>
      simp only [jn] at h
      rcases List.mem_append.1 h with h | h
      · exact .inr ⟨x, by simp, h⟩
      · rcases List.mem_cons.1 h with h | h
        · exact .inl h
        · rcases ih h with h | ⟨z, hz, h⟩
          · exact .inl h
          · exact .inr ⟨z, List.mem_cons_of_mem _ hz, h⟩
theorem jn_inj {c : UInt8} : ∀ {xs ys : List (List UInt8)}, (∀ x ∈ xs, c ∉ x) → (∀ y ∈ ys, c ∉ y) → xs ≠ [] → ys ≠ [] → jn c xs = jn c ys → xs = ys := by
  intro xs
  induction xs with
  | nil => intro ys _ _ h; exact absurd rfl h
  | cons x xs ih =>
    intro ys hx hy _ hn h
    cases ys with
    | nil => exact absurd rfl hn
    | cons y ys =>
      have hx0 := hx x (by simp)
      have hy0 := hy y (by simp)
      cases xs with
      | nil =>
        cases ys with
        | nil => simp only [jn] at h; rw [h]
        | cons y' ys =>
          simp only [jn] at h
          exact absurd (by rw [h]; simp) hx0
      | cons x' xs =>
        cases ys with
        | nil =>
          simp only [jn] at h
          exact absurd (by rw [← h]; simp) hy0
        | cons y' ys =>
          simp only [jn] at h
          obtain ⟨e1, h2⟩ := cut_eq hx0 hy0 h
          subst e1
          have := ih (fun z hz => hx z (List.mem_cons_of_mem _ hz)) (fun z hz => hy z (List.mem_cons_of_mem _ hz)) (by simp) (by simp) h2
          rw [this]
/-- numbers as a text -/
def nums (l : List Int) : List UInt8 := jn 44 (l.map itoa)
theorem nums_byte (l : List Int) : ∀ b ∈ nums l, b.toNat = 44 ∨ b.toNat = 45 ∨ (48 ≤ b.toNat ∧ b.toNat ≤ 57) := by
  intro b hb
  rcases jn_mem hb with rfl | ⟨x, hx, hb⟩
  · exact .inl rfl
  · obtain ⟨n, _, rfl⟩ := List.mem_map.1 hx
    exact .inr (itoa_byte n b hb)
theorem nums_inj {l m : List Int} (hl : l ≠ []) (hm : m ≠ []) (h : nums l = nums m) : l = m := by
  have h44 : ∀ n : Int, (44 : UInt8) ∉ itoa n := fun n hb => by
    have := itoa_byte n 44 hb
    have e : (44 : UInt8).toNat = 44 := rfl
    omega
  have := jn_inj (c := 44) (xs := l.map itoa) (ys := m.map itoa) (fun x hx => by obtain ⟨n, _, rfl⟩ := List.mem_map.1 hx; exact h44 n) (fun x hx => by obtain ⟨n, _, rfl⟩ := List.mem_map.1 hx; exact h44 n) (by simpa using hl) (by simpa using hm) h
  exact (List.map_inj_right fun a b => itoa_inj).1 this
end KT
end Go.Proofs.YtbiopedpceddeaaGreatDoor
end
section
namespace Go.Proofs.YtbiopedpceddeaaGreatDoor
set_option linter.unusedVariables false
set_option linter.unusedSimpArgs false
namespace KT
def word (x : T.Nd) : List UInt8 := nums ([x.op, x.w, x.fl, x.imm] ++ x.args)
def sideT (L : List T.Nd) : List UInt8 := jn 32 (L.map word)
def preT : List (List Int) → List UInt8
  | [] => []
  | l :: t => [32, 105, 102, 32] ++ nums l ++ preT t
def keyT (l r : List T.Nd) (ps : List (List Int)) : List UInt8 := sideT l ++ [32, 61, 62, 32] ++ sideT r ++ preT ps
theorem word_byte (x : T.Nd) : ∀ b ∈ word x, b.toNat = 44 ∨ b.toNat = 45 ∨ (48 ≤ b.toNat ∧ b.toNat ≤ 57) := nums_byte _
theorem word_inj {x y : T.Nd} (h : word x = word y) : x = y := by
  have := nums_inj (by simp) (by simp) h
  obtain ⟨a, b, c, d, e⟩ := x
  obtain ⟨a', b', c', d', e'⟩ := y
  simp at this
  obtain ⟨rfl, rfl, rfl, rfl, rfl⟩ := this
  rfl
theorem sideT_byte (L : List T.Nd) : ∀ b ∈ sideT L, b.toNat = 32 ∨ b.toNat = 44 ∨ b.toNat = 45 ∨ (48 ≤ b.toNat ∧ b.toNat ≤ 57) := by
  intro b hb
  rcases jn_mem hb with rfl | ⟨x, hx, hb⟩
  · exact .inl rfl
  · obtain ⟨n, _, rfl⟩ := List.mem_map.1 hx
    exact .inr (word_byte n b hb)
theorem sideT_inj {L M : List T.Nd} (hL : L ≠ []) (hM : M ≠ []) (h : sideT L = sideT M) : L = M := by
  have h32 : ∀ x : T.Nd, (32 : UInt8) ∉ word x := fun x hb => by
    have := word_byte x 32 hb
    have e : (32 : UInt8).toNat = 32 := rfl
    omega
  have := jn_inj (c := 32) (xs := L.map word) (ys := M.map word) (fun x hx => by obtain ⟨n, _, rfl⟩ := List.mem_map.1 hx; exact h32 n) (fun x hx => by obtain ⟨n, _, rfl⟩ := List.mem_map.1 hx; exact h32 n) (by simpa using hL) (by simpa using hM) h
  exact (List.map_inj_right fun a b => word_inj).1 this
theorem preT_inj : ∀ {xs ys : List (List Int)} {A B : List UInt8}, (∀ x ∈ xs, x ≠ []) → (∀ y ∈ ys, y ≠ []) → (∀ b ∈ A, b.toNat ≠ 105) → (∀ b ∈ B, b.toNat ≠ 105) → A ++ preT xs = B ++ preT ys → A = B ∧ xs = ys := by
  have e105 : (105 : UInt8).toNat = 105 := rfl
  have split : ∀ (x : List Int) (t : List (List Int)) (A : List UInt8), A ++ preT (x :: t) = (A ++ [32]) ++ 105 :: ([102, 32] ++ nums x ++ preT t) := fun x t A => by simp [preT]
  intro xs
  induction xs with
  | nil =>
    intro ys A B _ _ hA hB h
    cases ys with
    | nil => simp [preT] at h; exact ⟨h, rfl⟩
    | cons y ys =>
      exfalso
      rw [split, preT, List.append_nil] at h
      exact hA 105 (by rw [h]; simp) e105
  | cons x xs ih =>
    intro ys A B hx hy hA hB h
    cases ys with
    | nil =>
      exfalso
      rw [split, preT, List.append_nil] at h
      exact hB 105 (by rw [← h]; simp) e105
    | cons y ys =>
      rw [split, split] at h
      have hs : ∀ (C : List UInt8), (∀ b ∈ C, b.toNat ≠ 105) → (105 : UInt8) ∉ C ++ [32] := fun C hC hm => by
        rcases List.mem_append.1 hm with hm | hm
        · exact hC _ hm e105
        · simp at hm
      obtain ⟨e1, e2⟩ := cut_eq (hs A hA) (hs B hB) h
      have eA : A = B := List.append_cancel_right e1
      have e3 : nums x ++ preT xs = nums y ++ preT ys := by simpa using e2
      have hn : ∀ l : List Int, ∀ b ∈ nums l, b.toNat ≠ 105 := fun l b hb => by have := nums_byte l b hb; omega
      obtain ⟨f1, f2⟩ := ih (fun z hz => hx z (List.mem_cons_of_mem _ hz)) (fun z hz => hy z (List.mem_cons_of_mem _ hz)) (hn x) (hn y) e3
      rw [nums_inj (hx x (by simp)) (hy y (by simp)) f1, f2]
      exact ⟨eA, rfl⟩
theorem keyT_inj {l r l' r' : List T.Nd} {ps ps' : List (List Int)} (h1 : l ≠ []) (h2 : r ≠ []) (h3 : l' ≠ []) (h4 : r' ≠ []) (hp : ∀ x ∈ ps, x ≠ []) (hp' : ∀ x ∈ ps', x ≠ []) (h : keyT l r ps = keyT l' r' ps') : l = l' ∧ r = r' ∧ ps = ps' := by
  unfold keyT at h
  have e61 : (61 : UInt8).toNat = 61 := rfl
  have hs : ∀ L : List T.Nd, (61 : UInt8) ∉ sideT L ++ [32] := fun L hm => by
    rcases List.mem_append.1 hm with hm | hm
    · have := sideT_byte L _ hm; omega
    · simp at hm
  have h' : (sideT l ++ [32]) ++ 61 :: ([62, 32] ++ sideT r ++ preT ps) = (sideT l' ++ [32]) ++ 61 :: ([62, 32] ++ sideT r' ++ preT ps') := by simpa using h
  obtain ⟨e1, e2⟩ := cut_eq (hs l) (hs l') h'
  have e3 : sideT r ++ preT ps = sideT r' ++ preT ps' := by simpa using e2
  have hn : ∀ L : List T.Nd, ∀ b ∈ sideT L, b.toNat ≠ 105 := fun L b hb => by have := sideT_byte L b hb; omega
  obtain ⟨f1, f2⟩ := preT_inj hp hp' (hn r) (hn r') e3
  exact ⟨sideT_inj h1 h3 (List.append_cancel_right e1), sideT_inj h2 h4 f1, f2⟩

/-- strictly ascending lists with the same members are equal -/
theorem asc_eq {α : Type} {lt : α → α → Prop} (irr : ∀ a, ¬ lt a a) (tr : ∀ a b c, lt a b → lt b c → lt a c) : ∀ {l m : List α}, l.Pairwise lt → m.Pairwise lt → (∀ x, x ∈ l ↔ x ∈ m) → l = m := by
  intro l
  induction l with
  | nil =>
    intro m _ _ h
    cases m with
    | nil => rfl
    | cons y m => exact absurd ((h y).2 (by simp)) (by simp)
  | cons x l ih =>
    intro m hl hm h
    cases m with
    | nil => exact absurd ((h x).1 (by simp)) (by simp)
    | cons y m =>
      rw [List.pairwise_cons] at hl hm
      have hxy : x = y := by
        rcases List.mem_cons.1 ((h x).1 (by simp)) with e | hx
        · exact e
        · rcases List.mem_cons.1 ((h y).2 (by simp)) with e | hy
          · exact e.symm
          · exact absurd (tr _ _ _ (hl.1 y hy) (hm.1 x hx)) (irr x)
      subst hxy
      rw [ih hl.2 hm.2 fun z => ?_]
      constructor
      · intro hz
        rcases List.mem_cons.1 ((h z).1 (List.mem_cons_of_mem _ hz)) with e | hz'
        · subst e; exact absurd (hl.1 z hz) (irr z)
        · exact hz'
      · intro hz
        rcases List.mem_cons.1 ((h z).2 (List.mem_cons_of_mem _ hz)) with e | hz'
        · subst e; exact absurd (hm.1 z hz) (irr z)
        · exact hz'
end KT
end Go.Proofs.YtbiopedpceddeaaGreatDoor
end
section
namespace Go.Proofs
open Go.Shelf
def Tryz.lays156_ren : Go.Shelf.Ren := ⟨fun | 156 => 127 | 165 => 167 | 166 => 143 | 169 => 144 | 240 => 184 | 241 => 227 | 276 => 243 | 277 => 248 | n => n, fun | 31 => 106 | 9 => 9 | 3 => 3 | 4 => 4 | 0 => 0 | 20 => 20 | 72 => 197 | 76 => 200 | 70 => 195 | 37 => 117 | 75 => 199 | 127 => 233 | 164 => 262 | 5 => 5 | 80 => 120 | n => n, fun | n => n⟩
theorem Tryz.lays156 : Go.Proofs.Lays.n156 Tryz.prog Tryz.lays156_ren := {
  mixed := by kernel_rfl
  f156 := Tryz.func127.trans (congrArg some (by kernel_rfl))
  f165 := Tryz.func167.trans (congrArg some (by kernel_rfl))
  f166 := Tryz.func143.trans (congrArg some (by kernel_rfl))
  f169 := Tryz.func144.trans (congrArg some (by kernel_rfl))
  f240 := Tryz.func184.trans (congrArg some (by kernel_rfl))
  f241 := Tryz.func227.trans (congrArg some (by kernel_rfl))
  f276 := Tryz.func243.trans (congrArg some (by kernel_rfl))
  f277 := Tryz.func248.trans (congrArg some (by kernel_rfl))
  t0 := Tryz.underlying0
  a0 := Tryz.isAgg0
  z0 := Tryz.sizeOf0
  v0 := Tryz.zeroValue0
  t3 := Tryz.underlying3
  a3 := Tryz.isAgg3
  z3 := Tryz.sizeOf3
  v3 := Tryz.zeroValue3
  t4 := Tryz.underlying4
  a4 := Tryz.isAgg4
  z4 := Tryz.sizeOf4
  v4 := Tryz.zeroValue4
  t9 := Tryz.underlying9
  a9 := Tryz.isAgg9
  z9 := Tryz.sizeOf9
  v9 := Tryz.zeroValue9
  t20 := Tryz.underlying20
  a20 := Tryz.isAgg20
  z20 := Tryz.sizeOf20
  v20 := Tryz.zeroValue20
  t31 := Tryz.underlying106
  a31 := Tryz.isAgg106
  z31 := Tryz.sizeOf106
  v31 := Tryz.zeroValue106
  t37 := Tryz.underlying117
  a37 := Tryz.isAgg117
  z37 := Tryz.sizeOf117
  v37 := Tryz.zeroValue117
  t70 := Tryz.underlying195
  a70 := Tryz.isAgg195
  z70 := Tryz.sizeOf195
  v70 := Tryz.zeroValue195
  t72 := Tryz.underlying197
  a72 := Tryz.isAgg197
  z72 := Tryz.sizeOf197
  v72 := Tryz.zeroValue197
  t75 := Tryz.underlying199
  a75 := Tryz.isAgg199
  z75 := Tryz.sizeOf199
  v75 := Tryz.zeroValue199
  t76 := Tryz.underlying200
  a76 := Tryz.isAgg200
  z76 := Tryz.sizeOf200
  v76 := Tryz.zeroValue200
  t127 := Tryz.underlying233
  a127 := Tryz.isAgg233
  z127 := Tryz.sizeOf233
  v127 := Tryz.zeroValue233
  t164 := Tryz.underlying262
  a164 := Tryz.isAgg262
  z164 := Tryz.sizeOf262
  v164 := Tryz.zeroValue262 }
theorem Tryz.Builder_Extra_156 : Builder.Extra Tryz.prog Tryz.lays156_ren := {
  sizeBuilder := by kernel_rfl
  liesBuilder := by kernel_rfl
  t5 := Tryz.underlying5
  a5 := Tryz.isAgg5
  z5 := Tryz.sizeOf5
  v5 := Tryz.zeroValue5
  infoByte := by kernel_rfl
  cellsByte := by kernel_rfl
  sizeByte := by kernel_rfl
  neB5 := by decide }
open Go.RowKit in
open Go.RowKit in
/-- strings.Join: "Join concatenates the elements of its first argument to create a single string. The separator string sep is placed between elements in the resulting string.": HOWEVER MANY ELEMENTS. Below the heap's end the world is as it was. (LAID: no walk: one application.) -/
theorem Tryz.strings_Join (bk o c : Nat) (xs : List ByteArray) (sep : ByteArray) (w : World) (hcells : ∀ (j : Nat) x, xs[j]? = some x → w.cell? ⟨bk, o + j, none⟩ = some (.string x)) (hbk : bk < w.heap.size) (hN : xs.length ≤ 140737488355328) (hcap : xs.length ≤ c) (hlen : (Lib.join (xs.map (·.data.toList)) sep.data.toList).length ≤ 140737488355328) :
    Calls Tryz.prog 127 #[.slice (some ⟨bk, o, none⟩) xs.length c, .string sep] w fun e w' => e = .returned (.string ⟨(Lib.join (xs.map (·.data.toList)) sep.data.toList).toArray⟩) ∧ Below w.heap.size w w' := Any.strings_Join Tryz.lays156 Tryz.Builder_Extra_156 bk o c xs sep w hcells hbk hN hcap hlen
def Tryz.lays122_ren : Go.Shelf.Ren := ⟨fun | 122 => 130 | 215 => 178 | n => n, fun | 3 => 3 | 4 => 4 | n => n, fun | n => n⟩
theorem Tryz.lays122 : Go.Proofs.Lays.n122 Tryz.prog Tryz.lays122_ren := {
  mixed := by kernel_rfl
  f122 := Tryz.func130.trans (congrArg some (by kernel_rfl))
  f215 := Tryz.func178.trans (congrArg some (by kernel_rfl))
  t3 := Tryz.underlying3
  a3 := Tryz.isAgg3
  z3 := Tryz.sizeOf3
  v3 := Tryz.zeroValue3
  t4 := Tryz.underlying4
  a4 := Tryz.isAgg4
  z4 := Tryz.sizeOf4
  v4 := Tryz.zeroValue4 }
open Go.RowKit in
/-- cmp.Compare at int: "Compare returns -1 if x is less than y, 0 if x equals y, +1 if x is greater than y.": IT RETURNS 'Lib.compareInt x y'; the world is as it was. (LAID: no walk: one application.) -/
theorem Tryz.cmp_Compare_int (x y : Int) (w : World) :
    Calls Tryz.prog 130 #[.int .i64 x, .int .i64 y] w fun e w' => e = .returned (.int .i64 (Lib.compareInt x y)) ∧ w' = w := Any.cmp_Compare_int Tryz.lays122 x y w
open Go.RowKit in
open Go.Lib in
open Go.Lib in
open Go.RowKit Go.Sort Go.Lib in
def Tryz.laysM171_ren : Go.Shelf.Ren := ⟨fun | 171 => 86 | 243 => 147 | 246 => 186 | 283 => 233 | 284 => 234 | 285 => 235 | 286 => 236 | 129 => 177 | 317 => 250 | 318 => 251 | 319 => 252 | 320 => 253 | 337 => 191 | 338 => 265 | n => n, fun | 3 => 3 | 9 => 9 | 2 => 2 | 4 => 4 | 171 => 254 | 0 => 0 | 53 => 188 | 37 => 117 | 5 => 5 | 173 => 256 | 212 => 271 | 51 => 26 | 20 => 20 | 213 => 272 | 46 => 56 | 232 => 264 | 233 => 288 | n => n, fun | 17 => 1 | 18 => 0 | 19 => 7 | n => n⟩
theorem Tryz.laysM171 : Go.Proofs.LaysM.n171 Tryz.prog Tryz.laysM171_ren := {
  mixed := by kernel_rfl
  f129 := Tryz.func177.trans (congrArg some (by kernel_rfl))
  f171 := Tryz.func86.trans (congrArg some (by kernel_rfl))
  f243 := Tryz.func147.trans (congrArg some (by kernel_rfl))
  f246 := Tryz.func186.trans (congrArg some (by kernel_rfl))
  f283 := Tryz.func233.trans (congrArg some (by kernel_rfl))
  f284 := Tryz.func234.trans (congrArg some (by kernel_rfl))
  f285 := Tryz.func235.trans (congrArg some (by kernel_rfl))
  f286 := Tryz.func236.trans (congrArg some (by kernel_rfl))
  f317 := Tryz.func250.trans (congrArg some (by kernel_rfl))
  f318 := Tryz.func251.trans (congrArg some (by kernel_rfl))
  f319 := Tryz.func252.trans (congrArg some (by kernel_rfl))
  f320 := Tryz.func253.trans (congrArg some (by kernel_rfl))
  f337 := Tryz.func191.trans (congrArg some (by kernel_rfl))
  f338 := Tryz.func265.trans (congrArg some (by kernel_rfl))
  t0 := Tryz.underlying0
  a0 := Tryz.isAgg0
  z0 := Tryz.sizeOf0
  v0 := Tryz.zeroValue0
  t2 := Tryz.underlying2
  a2 := Tryz.isAgg2
  z2 := Tryz.sizeOf2
  v2 := Tryz.zeroValue2
  t3 := Tryz.underlying3
  a3 := Tryz.isAgg3
  z3 := Tryz.sizeOf3
  v3 := Tryz.zeroValue3
  t4 := Tryz.underlying4
  a4 := Tryz.isAgg4
  z4 := Tryz.sizeOf4
  v4 := Tryz.zeroValue4
  t5 := Tryz.underlying5
  a5 := Tryz.isAgg5
  z5 := Tryz.sizeOf5
  v5 := Tryz.zeroValue5
  t9 := Tryz.underlying9
  a9 := Tryz.isAgg9
  z9 := Tryz.sizeOf9
  v9 := Tryz.zeroValue9
  t20 := Tryz.underlying20
  a20 := Tryz.isAgg20
  z20 := Tryz.sizeOf20
  v20 := Tryz.zeroValue20
  t37 := Tryz.underlying117
  a37 := Tryz.isAgg117
  z37 := Tryz.sizeOf117
  v37 := Tryz.zeroValue117
  t46 := Tryz.underlying56
  a46 := Tryz.isAgg56
  z46 := Tryz.sizeOf56
  v46 := Tryz.zeroValue56
  t51 := Tryz.underlying26
  a51 := Tryz.isAgg26
  z51 := Tryz.sizeOf26
  v51 := Tryz.zeroValue26
  t53 := Tryz.underlying188
  a53 := Tryz.isAgg188
  z53 := Tryz.sizeOf188
  v53 := Tryz.zeroValue188
  t171 := Tryz.underlying254
  a171 := Tryz.isAgg254
  z171 := Tryz.sizeOf254
  v171 := Tryz.zeroValue254
  t173 := Tryz.underlying256
  a173 := Tryz.isAgg256
  z173 := Tryz.sizeOf256
  v173 := Tryz.zeroValue256
  t212 := Tryz.underlying271
  a212 := Tryz.isAgg271
  z212 := Tryz.sizeOf271
  v212 := Tryz.zeroValue271
  t213 := Tryz.underlying272
  a213 := Tryz.isAgg272
  z213 := Tryz.sizeOf272
  t232 := Tryz.underlying264
  a232 := Tryz.isAgg264
  z232 := Tryz.sizeOf264
  v232 := Tryz.zeroValue264
  t233 := Tryz.underlying288
  a233 := Tryz.isAgg288
  z233 := Tryz.sizeOf288
  v233 := Tryz.zeroValue288
  g17 := by kernel_rfl
  g18 := by kernel_rfl
  g19 := by kernel_rfl
  i0 := by kernel_rfl
  i2 := by kernel_rfl
  i3 := by kernel_rfl
  i4 := by kernel_rfl
  i5 := by kernel_rfl
  i9 := by kernel_rfl
  i20 := by kernel_rfl
  i37 := by kernel_rfl
  i46 := by kernel_rfl
  i51 := by kernel_rfl
  i53 := by kernel_rfl
  i171 := by kernel_rfl
  i173 := by kernel_rfl
  i212 := by kernel_rfl
  i232 := by kernel_rfl
  i233 := by kernel_rfl
  m17 := by kernel_rfl
  m18 := by kernel_rfl
  m19 := by kernel_rfl }
open Go.RowKit Go.Sort Go.Lib in
/-- strconv.Itoa: "Itoa is equivalent to FormatInt(int64(i), 10).": i's DECIMAL NUMERAL ('Lib.itoa': a '-' where i is negative, then the digits), FOR EVERY int. The world behind the call: the world before it, new blocks behind the heap (the library's 'var a [24]byte'), draws. (LAID: no walk: one application.) -/
theorem Tryz.strconv_Itoa (n : Int) (h0 : -9223372036854775808 ≤ n) (h1 : n ≤ 9223372036854775807) (w : World) (htab : Lib.TabIs Tryz.prog w "internal/strconv.uint64pow10" .u64 Lib.pow10Tab) :
    Calls Tryz.prog 86 #[.int .i64 n] w fun e w' => e = .returned (.string ⟨(Lib.itoa n).toArray⟩) ∧ ∃ k os, w' = grow (w.drewN k) os := Any.strconv_Itoa Tryz.laysM171 n h0 h1 w htab
open Go.RowKit Go.Sort Go.Lib in
open Go.RowKit in
open Go.RowKit in
open Go.RowKit in
open Go.RowKit Go.Lib in
open Go.RowKit Go.Lib in
open Go.RowKit Go.Lib in
def Tryz.lays111_ren : Go.Shelf.Ren := ⟨fun | 111 => 64 | n => n, fun | 28 => 60 | 3 => 3 | 4 => 4 | 0 => 0 | n => n, fun | n => n⟩
theorem Tryz.lays111 : Go.Proofs.Lays.n111 Tryz.prog Tryz.lays111_ren := {
  mixed := by kernel_rfl
  f111 := Tryz.func64.trans (congrArg some (by kernel_rfl))
  t0 := Tryz.underlying0
  a0 := Tryz.isAgg0
  z0 := Tryz.sizeOf0
  v0 := Tryz.zeroValue0
  t3 := Tryz.underlying3
  a3 := Tryz.isAgg3
  z3 := Tryz.sizeOf3
  v3 := Tryz.zeroValue3
  t4 := Tryz.underlying4
  a4 := Tryz.isAgg4
  z4 := Tryz.sizeOf4
  v4 := Tryz.zeroValue4
  t28 := Tryz.underlying60
  a28 := Tryz.isAgg60
  z28 := Tryz.sizeOf60
  v28 := Tryz.zeroValue60 }
open Go.RowKit Go.Lib in
/-- slices.Equal at []int: "Equal reports whether two slices are equal: the same length and all elements equal. If the lengths are different, Equal returns false. Otherwise, the elements are compared in increasing index order, and the comparison stops at the first unequal pair. Empty and nil slices are considered equal.": IT RETURNS WHETHER THE TWO LISTS OF ELEMENTS ARE ONE; the world is as it was but for the count of draws (the test 's1[i] != s2[i]' has two reads, whose order the model draws, once a round). 'xs', 'ys': what the cells behind the two addresses hold (the spare capacity too, if you have it); 'xs.take n', 'ys.take m': the elements. THE TWO SLICES MAY OVERLAP. (LAID: no walk: one application.) -/
theorem Tryz.slices_Equal_int (b1 o1 n c b2 o2 m d : Nat) (xs ys : List Int) (w : World) (hx : n ≤ xs.length) (hy : m ≤ ys.length) (hbig : n ≤ 9223372036854775807) (hbig2 : m ≤ 9223372036854775807) (hc1 : ∀ j, j < xs.length → w.cell? ⟨b1, o1 + j, none⟩ = some (.int .i64 (xs.getD j 0))) (hc2 : ∀ j, j < ys.length → w.cell? ⟨b2, o2 + j, none⟩ = some (.int .i64 (ys.getD j 0))) :
    Calls Tryz.prog 64 #[.slice (some ⟨b1, o1, none⟩) n c, .slice (some ⟨b2, o2, none⟩) m d] w fun e w' => e = .returned (.bool (xs.take n == ys.take m)) ∧ ∃ q, w' = w.drewN q := Any.slices_Equal_int Tryz.lays111 b1 o1 n c b2 o2 m d xs ys w hx hy hbig hbig2 hc1 hc2
open Go.RowKit Go.Lib in
/-- The same where the first is of length 0 (a nil one too): no cell is asked for. (LAID: no walk: one application.) -/
theorem Tryz.slices_Equal_int_empty (a1 a2 : Option Addr) (c m d : Nat) (w : World) (hbig2 : m ≤ 9223372036854775807) :
    Calls Tryz.prog 64 #[.slice a1 0 c, .slice a2 m d] w fun e w' => e = .returned (.bool (decide (m = 0))) ∧ w' = w := Any.slices_Equal_int_empty Tryz.lays111 a1 a2 c m d w hbig2
open Go.RowKit Go.Lib in
theorem Tryz.slices_Equal_int_lens (a1 a2 : Option Addr) (n c m d : Nat) (w : World) (hnm : n ≠ m) :
    Calls Tryz.prog 64 #[.slice a1 n c, .slice a2 m d] w fun e w' => e = .returned (.bool false) ∧ w' = w := Any.slices_Equal_int_lens Tryz.lays111 a1 a2 n c m d w hnm
end Go.Proofs
end
