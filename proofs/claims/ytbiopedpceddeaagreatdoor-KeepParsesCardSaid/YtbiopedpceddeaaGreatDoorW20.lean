/- Merged: C4Shelf2, C4KA0, C4OpenK, C4PK4, C4PK5. -/
import Derived.Test.YtbiopedpceddeaaGreatDoorW19
import Derived.Test.YtbiopedpceddeaaGreatDoorW18
import Derived.Test.YtbiopedpceddeaaGreatDoorW01
import Derived.Lib.AppendIntMem
import Derived.Lib.Split
import Derived.Lib.SplitLaws
import Derived.Lib.ParseIntB
import Derived.Test.YtbiopedpceddeaaGreatDoorW03
set_option linter.unusedVariables false
set_option linter.unusedSimpArgs false
section
namespace Go.Proofs
open Go.Shelf
theorem Tryz.lays166 : Go.Proofs.Lays.n166 Tryz.prog Tryz.lays156_ren := { Tryz.lays156 with }
open Go.RowKit in
theorem Tryz.Builder_WriteString_k (B b : Nat) (bs : List Value) (s : ByteArray) (w : World) (h : Lib.IsBuilderF 197 5 B b bs w) (hlen : bs.length + s.size ≤ 140737488355328) (hBw : B ≤ w.heap.size) :
    Calls Tryz.prog 143 #[.pointer (some ⟨b, 0, none⟩), .string s] w fun e w' => e = .returned (.tuple #[.int .i64 s.size, .nilIface]) ∧ (Lib.BuilderAtF 197 5 B b (.pointer (some ⟨b, 0, none⟩)) (bs ++ Lib.byteCells s.data.toList) w' ∧ Below B w w' ∧ Lib.OthersKept 5 (some b) w w') :=
  Any.Builder_WriteString_k Tryz.lays166 Tryz.Builder_Extra_156 B b bs s w h hlen hBw
end Go.Proofs
end
section
namespace Go.Proofs.YtbiopedpceddeaaGreatDoor
open Go.RowKit Go.Maps
set_option linter.unusedVariables false
set_option linter.unusedSimpArgs false
namespace KT
open Go.Lib (itoa)
/-- the table of the powers of ten lies as it is laid -/
def Tens (W : World) : Prop := Lib.TabIs Tryz.prog W "internal/strconv.uint64pow10" .u64 Lib.pow10Tab
theorem Tens.below {W W' : World} (h : Tens W) (hb : Below W.heap.size W W') : Tens W' := by
  unfold Tens Lib.TabIs World.var? at h ⊢
  cases hg : Tryz.prog.globalNamed "internal/strconv.uint64pow10" with
  | none => rw [hg] at h; cases h
  | some g =>
    rw [hg] at h
    simp only [Option.bind_some] at h ⊢
    have hlt : g < W.heap.size := by
      by_cases hc : g < W.heap.size
      · exact hc
      · rw [Array.getElem?_eq_none (by omega)] at h
        cases h
    rw [hb.block g hlt]
    exact h
theorem kItoa_any {n : Int} (hn : -9223372036854775808 ≤ n ∧ n ≤ 9223372036854775807) {W : World} (hT : Tens W) : Calls Tryz.prog 86 #[.int .i64 n] W fun e w' => e = .returned (.string ⟨(itoa n).toArray⟩) ∧ Below W.heap.size W w' :=
  (Tryz.strconv_Itoa n hn.1 hn.2 W hT).mono fun e w' h => ⟨h.1, by obtain ⟨k, os, rfl⟩ := h.2; exact Lib.below_grow W.heap.size W (Nat.le_refl _) k os⟩
/-- strings.Join of texts in memory -/
theorem kJoin_any {xs : List (List UInt8)} {A : Option Addr} {n c : Nat} {W : World} (hne : xs ≠ []) (c8 : UInt8) (ho : OwnAt W 9 1 (.slice A n c) n (xs.map fun l => Value.string ⟨l.toArray⟩)) (hl : (jn c8 xs).length ≤ 140737488355328) (hn : n ≤ 140737488355328) :
    Calls Tryz.prog 127 #[.slice A n c, .string ⟨#[c8]⟩] W fun e w' => e = .returned (.string ⟨(jn c8 xs).toArray⟩) ∧ Below W.heap.size W w' := by
  have hlen : xs.length = n := by have := ho.1; simpa using this
  rcases ho.2 with ⟨e, h0⟩ | ⟨g, off, cap, cur, e, hc, h1, h2, h3, h4⟩
  · exact absurd (by cases xs with | nil => rfl | cons _ _ => simp at hlen; omega) hne
  · injection e with e1 e2 e3
    subst e1 e3
    have hmap : (xs.map fun l => (⟨l.toArray⟩ : ByteArray)).map (·.data.toList) = xs := by
      rw [List.map_map]
      conv => rhs; rw [← List.map_id xs]
      exact List.map_congr_left fun a _ => rfl
    have hj := Tryz.strings_Join g off c (xs.map fun l => (⟨l.toArray⟩ : ByteArray)) ⟨#[c8]⟩ W ?_ (Array.getElem?_eq_some_iff.1 hc).1 (by simp; omega) (by simp; omega) ?_
    · rw [hmap, List.length_map, hlen] at hj
      have hj2 : Lib.join xs (⟨#[c8]⟩ : ByteArray).data.toList = jn c8 xs := jn_eq c8 xs
      rw [hj2] at hj
      exact hj
    · intro j x hx
      rw [List.getElem?_map] at hx
      cases hxj : xs[j]? with
      | none => rw [hxj] at hx; cases hx
      | some y =>
        rw [hxj] at hx
        simp only [Option.map_some] at hx
        cases hx
        have := h4 j (Value.string ⟨y.toArray⟩) (by rw [List.getElem?_map, hxj]; rfl)
        rw [World.cell?, hc]; simpa using this
    · rw [hmap]
      have hj2 : Lib.join xs (⟨#[c8]⟩ : ByteArray).data.toList = jn c8 xs := jn_eq c8 xs
      rw [hj2]
      exact hl
theorem infoS : (Tryz.prog.info? 9).map (fun i => (i.zero, i.size, i.bytes)) = some (some (.string ByteArray.empty), 1, 16) := by kernel_rfl
def svs (l : List Int) : List Value := (l.map itoa).map fun l => Value.string ⟨l.toArray⟩
theorem svs_snoc (l : List Int) (x : Int) : svs (l ++ [x]) = svs l ++ [.string ⟨(itoa x).toArray⟩] := by simp [svs]
theorem dec_len (k : Nat) : ∀ u, u < 10 ^ (k + 1) → (Lib.decDigits u).length ≤ k + 1 := by
  induction k with
  | zero => intro u h; unfold Lib.decDigits; rw [dif_pos (by omega)]; simp
  | succ k ih =>
    intro u h
    unfold Lib.decDigits
    split
    · simp
    · rw [List.length_append, List.length_singleton]
      have := ih (u / 10) (by rw [Nat.pow_succ] at h; omega)
      omega
theorem itoa_len {n : Int} (h : -9223372036854775808 ≤ n ∧ n ≤ 9223372036854775807) : (itoa n).length ≤ 20 := by
  have h1 := h.1
  have h2 := h.2
  unfold itoa
  split
  · have := dec_len 18 n.natAbs (by omega)
    simp
    omega
  · have := dec_len 18 n.toNat (by omega)
    omega
theorem jn_len_le (c : UInt8) (B : Nat) : ∀ xs : List (List UInt8), (∀ x ∈ xs, x.length ≤ B) → (jn c xs).length ≤ xs.length * (B + 1) := by
  intro xs
  induction xs with
  | nil => intro _; simp [jn]
  | cons x xs ih =>
    intro h
    have hx := h x (by simp)
    cases xs with
    | nil => simp only [jn, List.length_cons, List.length_nil]; omega
    | cons y l =>
      have := ih fun z hz => h z (List.mem_cons_of_mem _ hz)
      rw [jn]
      simp only [List.length_append, List.length_cons] at this ⊢
      rw [Nat.add_mul (l.length + 1) 1 (B + 1)]
      omega
theorem nums_len {l : List Int} (h : ∀ x ∈ l, -9223372036854775808 ≤ x ∧ x ≤ 9223372036854775807) : (nums l).length ≤ l.length * 21 := by
  have := jn_len_le 44 20 (l.map itoa) (fun x hx => by obtain ⟨n, hn, rfl⟩ := List.mem_map.1 hx; exact itoa_len (h n hn))
  simpa [nums] using this

end KT
end Go.Proofs.YtbiopedpceddeaaGreatDoor
end
section
namespace Go.Proofs.YtbiopedpceddeaaGreatDoor
open Go.RowKit
set_option linter.unusedVariables false
set_option linter.unusedSimpArgs false
namespace KT
theorem laidMet_tail {P : Program} {n : String} {d : DataW Unit} {r : List (String × DataW Unit)} {w : World} (h : laidMet P ((n, d) :: r) w) : laidMet P r w := by
  obtain ⟨ps, ⟨g, t, cs, fuel, p, q, _, _, _, _, hq, rfl⟩, hn, hr⟩ := h
  exact ⟨q, hq, (List.nodup_append.1 hn).2.1, fun b off hm => hr b off (List.mem_append_right _ hm)⟩
theorem g10 : Tryz.prog.globalNamed "internal/strconv.uint64pow10" = some 1 := by kernel_rfl
theorem g10Type : (Tryz.prog.globals[1]?).map (·.type) = some 271 := by kernel_rfl
theorem cells10 : Tryz.prog.cellsOf 271 = 20 := by kernel_rfl
theorem cellsU64 : Tryz.prog.cellsOf 188 = 1 := by kernel_rfl
theorem und10 : Tryz.prog.underlying 271 = some (.array 20 188) := by kernel_rfl
theorem undU64 : Tryz.prog.underlying 188 = some (.int .u64) := by kernel_rfl
/-- what a table of words holds -/
def tabOf : DataW Unit → List Value
  | .agg l => l.map fun d => match d with
    | .lit (.int k n) => Value.int k n
    | _ => undef
  | _ => []
end KT
end Go.Proofs.YtbiopedpceddeaaGreatDoor
end
section
namespace Go.Proofs.YtbiopedpceddeaaGreatDoor
set_option linter.unusedVariables false
set_option linter.unusedSimpArgs false
namespace KT
open Go.Lib
theorem index_app (c : UInt8) (A : List UInt8) : ∀ x : List UInt8, c ∉ x → index (x ++ c :: A) [c] = x.length := by
  intro x
  induction x with
  | nil => intro _; rw [List.nil_append, index]; simp [List.isPrefixOf]
  | cons b x ih =>
    intro h
    simp only [List.mem_cons, not_or] at h
    rw [List.cons_append, index, if_neg (by simp [List.isPrefixOf, h.1]), ih h.2, if_neg (by rw [beq_iff_eq]; omega)]
    simp
theorem index_not (c : UInt8) : ∀ x : List UInt8, c ∉ x → index x [c] = -1 := by
  intro x
  induction x with
  | nil => intro _; simp [index]
  | cons b x ih =>
    intro h
    simp only [List.mem_cons, not_or] at h
    rw [index, if_neg (by simp [List.isPrefixOf, h.1]), ih h.2]
    rfl
theorem cut_app (c : UInt8) (x A : List UInt8) (h : c ∉ x) : cut (x ++ c :: A) [c] = (x, A, true) := by
  unfold cut
  rw [index_app c A x h, if_pos (by omega)]
  simp
theorem cut_not (c : UInt8) (x : List UInt8) (h : c ∉ x) : cut x [c] = (x, [], false) := by
  unfold cut
  rw [index_not c x h, if_neg (by omega)]
/-- a text that is cut -/
theorem cut_cases (c : UInt8) (s : List UInt8) : (c ∉ s ∧ cut s [c] = (s, [], false)) ∨ ∃ x A, s = x ++ c :: A ∧ c ∉ x ∧ cut s [c] = (x, A, true) := by
  by_cases h : c ∈ s
  · right
    induction s with
    | nil => cases h
    | cons b s ih =>
      by_cases hb : b = c
      · subst hb
        exact ⟨[], s, rfl, by simp, cut_app b [] s (by simp)⟩
      · obtain ⟨x, A, e, hx, _⟩ := ih (by simpa [Ne.symm hb] using h)
        have hx' : c ∉ b :: x := by simp [Ne.symm hb, hx]
        refine ⟨b :: x, A, by rw [e]; rfl, hx', ?_⟩
        rw [e]
        exact cut_app c (b :: x) A hx'
  · exact .inl ⟨h, cut_not c s h⟩
theorem splitK_jn (c : UInt8) : ∀ (xs : List (List UInt8)) (k : Nat), xs ≠ [] → (∀ x ∈ xs, c ∉ x) → xs.length ≤ k + 1 → splitK [c] 0 k (jn c xs) = xs := by
  intro xs
  induction xs with
  | nil => intro k h; exact absurd rfl h
  | cons x xs ih =>
    intro k _ hx hk
    have hx0 := hx x (by simp)
    cases xs with
    | nil =>
      rw [jn]
      cases k with
      | zero => rfl
      | succ k => rw [splitK, index_not c x hx0]; rfl
    | cons y l =>
      rw [jn]
      cases k with
      | zero => simp at hk
      | succ k =>
        rw [splitK, index_app c _ x hx0, if_neg (by rw [beq_iff_eq]; omega)]
        have e1 : (x ++ c :: jn c (y :: l)).take (((x.length : Nat) : Int).toNat + 0) = x := by simp
        have e2 : (x ++ c :: jn c (y :: l)).drop (((x.length : Nat) : Int).toNat + [c].length) = jn c (y :: l) := by
          simp
        rw [e1, e2, ih k (by simp) (fun z hz => hx z (List.mem_cons_of_mem _ hz)) (by simpa using hk)]
theorem count_jn (c : UInt8) : ∀ xs : List (List UInt8), xs ≠ [] → (∀ x ∈ xs, c ∉ x) → (jn c xs).count c + 1 = xs.length := by
  intro xs
  induction xs with
  | nil => intro h; exact absurd rfl h
  | cons x xs ih =>
    intro _ hx
    have h0 : x.count c = 0 := List.count_eq_zero.2 (hx x (by simp))
    cases xs with
    | nil => simp [jn, h0]
    | cons y l =>
      have := ih (by simp) fun z hz => hx z (List.mem_cons_of_mem _ hz)
      rw [jn, List.count_append, List.count_cons_self, h0]
      simp only [List.length_cons] at this ⊢
      omega
theorem split_jn (c : UInt8) (xs : List (List UInt8)) (h : xs ≠ []) (hx : ∀ x ∈ xs, c ∉ x) : split (jn c xs) [c] = xs := by
  unfold split
  have e : xs.length = count (jn c xs) [c] + 1 := by rw [count_one, count_jn c xs h hx]
  exact splitK_jn c xs _ h hx (Nat.le_of_eq e)
theorem jn_len (c : UInt8) : ∀ xs : List (List UInt8), xs.length ≤ (jn c xs).length + 1 := by
  intro xs
  induction xs with
  | nil => simp
  | cons x xs ih =>
    cases xs with
    | nil => simp
    | cons y l =>
      rw [jn]
      simp only [List.length_cons, List.length_append] at ih ⊢
      omega
theorem splitN_jn (c : UInt8) (xs : List (List UInt8)) (n : Nat) (h : xs ≠ []) (hx : ∀ x ∈ xs, c ∉ x) (hn : xs.length ≤ n) : splitN (jn c xs) [c] n = xs := by
  unfold splitN
  have := jn_len c xs
  exact splitK_jn c xs _ h hx (by omega)

/-- pieces of a text between a byte -/
def pcs (c : UInt8) : List UInt8 → List (List UInt8)
  | [] => [[]]
  | b :: l => if b = c then [] :: pcs c l else (b :: (pcs c l).headD []) :: (pcs c l).tail
theorem pcs_ne (c : UInt8) (s : List UInt8) : pcs c s ≠ [] := by
  cases s with
  | nil => simp [pcs]
  | cons b s => rw [pcs]; split <;> simp
theorem pcs_app (c : UInt8) (A : List UInt8) : ∀ x : List UInt8, c ∉ x → pcs c (x ++ c :: A) = x :: pcs c A := by
  intro x
  induction x with
  | nil => intro _; simp [pcs]
  | cons b x ih =>
    intro h
    simp only [List.mem_cons, not_or] at h
    rw [List.cons_append, pcs, if_neg (fun e => h.1 e.symm), ih h.2]
    rfl
theorem pcs_not (c : UInt8) : ∀ x : List UInt8, c ∉ x → pcs c x = [x] := by
  intro x
  induction x with
  | nil => intro _; rfl
  | cons b x ih =>
    intro h
    simp only [List.mem_cons, not_or] at h
    rw [pcs, if_neg (fun e => h.1 e.symm), ih h.2]
    rfl
theorem pcs_jn (c : UInt8) : ∀ xs : List (List UInt8), xs ≠ [] → (∀ x ∈ xs, c ∉ x) → pcs c (jn c xs) = xs := by
  intro xs
  induction xs with
  | nil => intro h; exact absurd rfl h
  | cons x xs ih =>
    intro _ hx
    cases xs with
    | nil => rw [jn]; exact pcs_not c x (hx x (by simp))
    | cons y l =>
      rw [jn, pcs_app c _ x (hx x (by simp)), ih (by simp) fun z hz => hx z (List.mem_cons_of_mem _ hz)]

/-- a number that is read; 0 if it is none of 32 bits -/
def num (s : List UInt8) : Int := match parseUintB 32 s with
  | .ok u => u
  | _ => 0
theorem parse_app (M : Nat) (hM : M < 4294967296) : ∀ (l : List UInt8) (a : Nat), (∀ b ∈ l, 48 ≤ b.toNat ∧ b.toNat ≤ 57) → a ≤ M → (l.foldl (fun a b => 10 * a + (b.toNat - 48)) a) ≤ M → parseUintM M a l = .ok (l.foldl (fun a b => 10 * a + (b.toNat - 48)) a) := by
  intro l
  induction l with
  | nil => intro a _ _ _; rfl
  | cons b l ih =>
    intro a hl ha h
    have hb := hl b (by simp)
    have mono : ∀ (l : List UInt8) (a : Nat), a ≤ l.foldl (fun a b => 10 * a + (b.toNat - 48)) a := by
      intro l
      induction l with
      | nil => intro a; exact Nat.le_refl _
      | cons c l ih2 => intro a; exact Nat.le_trans (show a ≤ 10 * a + (c.toNat - 48) by omega) (ih2 _)
    have h1 : 10 * a + (b.toNat - 48) ≤ M := Nat.le_trans (mono l _) h
    rw [parseUintM, if_pos hb, if_neg (by omega), if_neg (by omega)]
    rw [show a * 10 + (b.toNat - 48) = 10 * a + (b.toNat - 48) by omega]
    exact ih _ (fun c hc => hl c (List.mem_cons_of_mem _ hc)) h1 h
theorem num_itoa {n : Int} (h0 : 0 ≤ n) (h1 : n < 4294967296) : num (itoa n) = n := by
  have e : itoa n = decDigits n.toNat := by unfold itoa; rw [if_neg (by omega)]
  have hv := val_dec n.toNat
  unfold val at hv
  have := parse_app (2 ^ 32 - 1) (by decide) (decDigits n.toNat) 0 (dec_dig _) (by omega) (by rw [hv]; omega)
  rw [hv] at this
  unfold num parseUintB
  rw [e, if_neg (dec_ne _), this]
  show ((n.toNat : Nat) : Int) = n
  omega
/-- the document's number of a text: 0 if it is none, or too large -/
def rnumFrom (n : Int) : List UInt8 → Int
  | [] => if 4294967296 ≤ n then 0 else n
  | b :: l => if b.toNat < 48 ∨ 57 < b.toNat ∨ 4294967296 ≤ n then 0 else rnumFrom (10 * n + ((b.toNat : Int) - 48)) l
def rnum (s : List UInt8) : Int := rnumFrom 0 s
theorem rnumFrom_dig : ∀ (l : List UInt8) (a : Nat), (∀ b ∈ l, 48 ≤ b.toNat ∧ b.toNat ≤ 57) → (l.foldl (fun a b => 10 * a + (b.toNat - 48)) a) < 4294967296 → rnumFrom (a : Int) l = ((l.foldl (fun a b => 10 * a + (b.toNat - 48)) a : Nat) : Int) := by
  intro l
  induction l with
  | nil => intro a _ h; rw [rnumFrom, if_neg (by simp only [List.foldl_nil] at h; omega)]; rfl
  | cons b l ih =>
    intro a hl h
    have hb := hl b (by simp)
    have mono : ∀ (l : List UInt8) (a : Nat), a ≤ l.foldl (fun a b => 10 * a + (b.toNat - 48)) a := by
      intro l
      induction l with
      | nil => intro a; exact Nat.le_refl _
      | cons c l ih2 => intro a; exact Nat.le_trans (show a ≤ 10 * a + (c.toNat - 48) by omega) (ih2 _)
    have h1 : 10 * a + (b.toNat - 48) < 4294967296 := Nat.lt_of_le_of_lt (mono l _) h
    rw [rnumFrom, if_neg (by omega)]
    rw [show 10 * (a : Int) + ((b.toNat : Int) - 48) = ((10 * a + (b.toNat - 48) : Nat) : Int) by omega]
    exact ih _ (fun c hc => hl c (List.mem_cons_of_mem _ hc)) h
theorem rnum_itoa {n : Int} (h0 : 0 ≤ n) (h1 : n < 4294967296) : rnum (itoa n) = n := by
  have e : itoa n = decDigits n.toNat := by unfold itoa; rw [if_neg (by omega)]
  have hv := val_dec n.toNat
  unfold val at hv
  have := rnumFrom_dig (decDigits n.toNat) 0 (dec_dig _) (by rw [hv]; omega)
  rw [hv] at this
  rw [rnum, e]
  show rnumFrom ((0 : Nat) : Int) _ = n
  rw [this]
  omega
theorem num_range (s : List UInt8) : 0 ≤ num s ∧ num s < 4294967296 := by
  have hok : ∀ (l : List UInt8) (a u : Nat), a ≤ 2 ^ 32 - 1 → parseUintM (2 ^ 32 - 1) a l = .ok u → u ≤ 2 ^ 32 - 1 := by
    intro l
    induction l with
    | nil => intro a u ha h; rw [parseUintM] at h; injection h with h; omega
    | cons b l ih =>
      intro a u ha h
      rw [parseUintM] at h
      split at h
      · split at h
        · cases h
        · split at h
          · cases h
          · exact ih _ _ (by omega) h
      · cases h
  unfold num
  split
  · rename_i u h
    unfold parseUintB at h
    split at h
    · cases h
    · have := hok _ _ _ (by omega) h
      omega
  · omega
theorem rnum_range (s : List UInt8) : 0 ≤ rnum s ∧ rnum s < 4294967296 := by
  have : ∀ (l : List UInt8) (n : Int), 0 ≤ n → 0 ≤ rnumFrom n l ∧ rnumFrom n l < 4294967296 := by
    intro l
    induction l with
    | nil => intro n h; rw [rnumFrom]; split <;> omega
    | cons b l ih =>
      intro n h
      rw [rnumFrom]
      split
      · omega
      · exact ih _ (by omega)
  exact this s 0 (by omega)
end KT
end Go.Proofs.YtbiopedpceddeaaGreatDoor
end
section
namespace Go.Proofs.YtbiopedpceddeaaGreatDoor
set_option linter.unusedVariables false
set_option linter.unusedSimpArgs false
namespace KT
open Go.Lib
/-- the text of a node -/
def nodeW (x : T.Nd) : List UInt8 := jn 44 (jn 46 [itoa x.op, itoa x.w, itoa x.fl, itoa x.imm] :: x.args.map itoa)
def condW (c : R.Cd) : List UInt8 := jn 46 [itoa c.kind, itoa c.hole, itoa c.imm]
def arrow : List UInt8 := [61, 62]
def iff_ : List UInt8 := [105, 102]
def wordsOf (r : R.Rl) : List (List UInt8) := r.left.map nodeW ++ arrow :: (r.right.map nodeW ++ iff_ :: r.pre.map condW)
def textW (r : R.Rl) : List UInt8 := jn 32 (wordsOf r)
/-- numbers of 32 bits -/
def U32 (n : Int) : Prop := 0 ≤ n ∧ n < 4294967296
structure NdS (x : T.Nd) : Prop where
  op : U32 x.op
  w : U32 x.w
  fl : U32 x.fl
  imm : U32 x.imm
  args : ∀ a ∈ x.args, U32 a
structure CdS (c : R.Cd) : Prop where
  kind : U32 c.kind
  hole : U32 c.hole
  imm : U32 c.imm
structure RlS (r : R.Rl) : Prop where
  left : ∀ x ∈ r.left, NdS x
  right : ∀ x ∈ r.right, NdS x
  pre : ∀ c ∈ r.pre, CdS c
/-- the program's reading -/
def partsOf (s : List UInt8) (n : Nat) : List Int := (splitN s [46] n).map num ++ List.replicate (n - (splitN s [46] n).length) 0
def nodeOf (s : List UInt8) : T.Nd :=
  { op := (partsOf (cut s [44]).1 4).getD 0 0, w := (partsOf (cut s [44]).1 4).getD 1 0, fl := (partsOf (cut s [44]).1 4).getD 2 0, imm := (partsOf (cut s [44]).1 4).getD 3 0, args := if (cut s [44]).2.2 then (split (cut s [44]).2.1 [44]).map num else [] }
def condOf (s : List UInt8) : R.Cd := ⟨(partsOf s 3).getD 0 0, (partsOf s 3).getD 1 0, (partsOf s 3).getD 2 0⟩
/-- the words before an end -/
def upTo (e : List UInt8) : List (List UInt8) → List (List UInt8)
  | [] => []
  | w :: l => if w = e then [] else w :: upTo e l
/-- the words behind an end -/
def past (e : List UInt8) : List (List UInt8) → List (List UInt8)
  | [] => []
  | w :: l => if w = e then l else past e l
def candP (s : List UInt8) : R.Rl :=
  ⟨(upTo arrow (split s [32])).map nodeOf, (upTo iff_ (past arrow (split s [32]))).map nodeOf, (upTo [] (past iff_ (past arrow (split s [32])))).map condOf⟩
/-- the document's reading -/
def fieldsR (s : List UInt8) : List Int := (pcs 46 s).map rnum ++ [0, 0, 0, 0]
def nodeR (w : List UInt8) : T.Nd :=
  { op := (fieldsR ((pcs 44 w).headD [])).getD 0 0, w := (fieldsR ((pcs 44 w).headD [])).getD 1 0, fl := (fieldsR ((pcs 44 w).headD [])).getD 2 0, imm := (fieldsR ((pcs 44 w).headD [])).getD 3 0, args := (pcs 44 w).tail.map rnum }
def condR (w : List UInt8) : R.Cd := ⟨(fieldsR ((pcs 44 w).headD [])).getD 0 0, (fieldsR ((pcs 44 w).headD [])).getD 1 0, (fieldsR ((pcs 44 w).headD [])).getD 2 0⟩
def stepR (q : Int × R.Rl) (w : List UInt8) : Int × R.Rl :=
  if w = arrow ∨ w = iff_ then (q.1 + 1, q.2)
  else if q.1 = 2 then (q.1, { q.2 with pre := q.2.pre ++ [condR w] })
  else if q.1 = 0 then (q.1, { q.2 with left := q.2.left ++ [nodeR w] })
  else if q.1 = 1 then (q.1, { q.2 with right := q.2.right ++ [nodeR w] })
  else q
def candR (s : List UInt8) : R.Rl := ((pcs 32 s).foldl stepR (0, ⟨[], [], []⟩)).2

theorem itoa_no {c : UInt8} (h : c.toNat < 45 ∨ c.toNat = 46 ∨ c.toNat = 47 ∨ 57 < c.toNat) (n : Int) : c ∉ itoa n := by
  intro hc
  have := itoa_byte n c hc
  omega
theorem nums_no (l : List Int) {c : UInt8} (h : c.toNat < 45 ∨ c.toNat = 46 ∨ c.toNat = 47 ∨ 57 < c.toNat) : ∀ x ∈ l.map itoa, c ∉ x := by
  intro x hx
  obtain ⟨n, _, rfl⟩ := List.mem_map.1 hx
  exact itoa_no h n
/-- which bytes a joined text of numbers has -/
theorem jn46_byte (l : List Int) : ∀ b ∈ jn 46 (l.map itoa), b.toNat = 46 ∨ b.toNat = 45 ∨ (48 ≤ b.toNat ∧ b.toNat ≤ 57) := by
  intro b hb
  rcases jn_mem hb with h | ⟨x, hx, h⟩
  · left; rw [h]; rfl
  · obtain ⟨n, _, rfl⟩ := List.mem_map.1 hx
    rcases itoa_byte n b h with h | h
    · exact .inr (.inl h)
    · exact .inr (.inr h)
theorem nodeW_byte (x : T.Nd) : ∀ b ∈ nodeW x, b.toNat = 44 ∨ b.toNat = 46 ∨ b.toNat = 45 ∨ (48 ≤ b.toNat ∧ b.toNat ≤ 57) := by
  intro b hb
  rcases jn_mem hb with h | ⟨y, hy, h⟩
  · left; rw [h]; rfl
  · rcases List.mem_cons.1 hy with rfl | hy
    · exact .inr (jn46_byte [x.op, x.w, x.fl, x.imm] b h)
    · obtain ⟨n, _, rfl⟩ := List.mem_map.1 hy
      rcases itoa_byte n b h with h | h
      · exact .inr (.inr (.inl h))
      · exact .inr (.inr (.inr h))
theorem condW_byte (c : R.Cd) : ∀ b ∈ condW c, b.toNat = 46 ∨ b.toNat = 45 ∨ (48 ≤ b.toNat ∧ b.toNat ≤ 57) := jn46_byte [c.kind, c.hole, c.imm]
theorem jn_ne {c : UInt8} {x : List UInt8} {l : List (List UInt8)} (h : x ≠ []) : jn c (x :: l) ≠ [] := by
  cases l with
  | nil => exact h
  | cons y l => rw [jn]; simp
theorem condW_ne (c : R.Cd) : condW c ≠ [] := jn_ne (itoa_ne _)
theorem no_arrow {x : List UInt8} (h : ∀ b ∈ x, b.toNat ≠ 61) : x ≠ arrow := by
  rintro rfl
  exact h 61 (by simp [arrow]) rfl
theorem no_iff {x : List UInt8} (h : ∀ b ∈ x, b.toNat ≠ 105) : x ≠ iff_ := by
  rintro rfl
  exact h 105 (by simp [iff_]) rfl
theorem nodeW_arrow (x : T.Nd) : nodeW x ≠ arrow := no_arrow fun b hb => by have := nodeW_byte x b hb; omega
theorem nodeW_iff (x : T.Nd) : nodeW x ≠ iff_ := no_iff fun b hb => by have := nodeW_byte x b hb; omega
theorem condW_arrow (x : R.Cd) : condW x ≠ arrow := no_arrow fun b hb => by have := condW_byte x b hb; omega
theorem condW_iff (x : R.Cd) : condW x ≠ iff_ := no_iff fun b hb => by have := condW_byte x b hb; omega
theorem words_ne (r : R.Rl) : wordsOf r ≠ [] := by unfold wordsOf; simp
theorem words_no (r : R.Rl) : ∀ x ∈ wordsOf r, (32 : UInt8) ∉ x ∧ (10 : UInt8) ∉ x := by
  intro x hx
  have key : (∀ b ∈ x, 42 < b.toNat) → (32 : UInt8) ∉ x ∧ (10 : UInt8) ∉ x := fun h => ⟨fun hc => absurd (h _ hc) (by decide), fun hc => absurd (h _ hc) (by decide)⟩
  apply key
  unfold wordsOf at hx
  rcases List.mem_append.1 hx with hx | hx
  · obtain ⟨y, _, rfl⟩ := List.mem_map.1 hx
    intro b hb
    have := nodeW_byte y b hb
    omega
  · rcases List.mem_cons.1 hx with rfl | hx
    · intro b hb
      simp [arrow] at hb
      rcases hb with rfl | rfl <;> decide
    · rcases List.mem_append.1 hx with hx | hx
      · obtain ⟨y, _, rfl⟩ := List.mem_map.1 hx
        intro b hb
        have := nodeW_byte y b hb
        omega
      · rcases List.mem_cons.1 hx with rfl | hx
        · intro b hb
          simp [iff_] at hb
          rcases hb with rfl | rfl <;> decide
        · obtain ⟨y, _, rfl⟩ := List.mem_map.1 hx
          intro b hb
          have := condW_byte y b hb
          omega
theorem text_nl (r : R.Rl) : (10 : UInt8) ∉ textW r := by
  intro h
  rcases jn_mem h with h | ⟨x, hx, h⟩
  · exact absurd h (by decide)
  · exact (words_no r x hx).2 h
theorem split_text (r : R.Rl) : split (textW r) [32] = wordsOf r := split_jn 32 _ (words_ne r) fun x hx => (words_no r x hx).1
theorem pcs_text (r : R.Rl) : pcs 32 (textW r) = wordsOf r := pcs_jn 32 _ (words_ne r) fun x hx => (words_no r x hx).1
theorem map_num {l : List Int} (h : ∀ a ∈ l, U32 a) : (l.map itoa).map num = l := by
  rw [List.map_map]
  conv => rhs; rw [← List.map_id l]
  exact List.map_congr_left fun a ha => num_itoa (h a ha).1 (h a ha).2
theorem map_rnum {l : List Int} (h : ∀ a ∈ l, U32 a) : (l.map itoa).map rnum = l := by
  rw [List.map_map]
  conv => rhs; rw [← List.map_id l]
  exact List.map_congr_left fun a ha => rnum_itoa (h a ha).1 (h a ha).2
theorem parts_jn (l : List Int) (h : ∀ a ∈ l, U32 a) (hn : l ≠ []) : partsOf (jn 46 (l.map itoa)) l.length = l := by
  unfold partsOf
  rw [splitN_jn 46 (l.map itoa) l.length (by simpa using hn) (nums_no l (by decide)) (by simp), map_num h]
  simp
theorem nodeOf_W {x : T.Nd} (h : NdS x) : nodeOf (nodeW x) = x := by
  have hp := parts_jn [x.op, x.w, x.fl, x.imm] (by simp [h.op, h.w, h.fl, h.imm]) (by simp)
  have hno : (44 : UInt8) ∉ jn 46 ([x.op, x.w, x.fl, x.imm].map itoa) := fun hc => absurd (jn46_byte _ _ hc) (by decide)
  have hnW : nodeW x = jn 44 (jn 46 ([x.op, x.w, x.fl, x.imm].map itoa) :: x.args.map itoa) := rfl
  cases ha : x.args with
  | nil =>
    have hc : cut (nodeW x) [44] = (jn 46 ([x.op, x.w, x.fl, x.imm].map itoa), [], false) := by
      rw [hnW, ha]; exact cut_not 44 _ hno
    unfold nodeOf
    rw [hc]
    simp only [List.length_cons, List.length_nil, Nat.zero_add] at hp
    rw [hp]
    rcases x with ⟨a, b, c, d, e⟩
    simp only at ha
    subst ha
    rfl
  | cons a l =>
    have hc : cut (nodeW x) [44] = (jn 46 ([x.op, x.w, x.fl, x.imm].map itoa), jn 44 ((a :: l).map itoa), true) := by
      rw [hnW, ha]; exact cut_app 44 _ _ hno
    unfold nodeOf
    rw [hc]
    simp only [List.length_cons, List.length_nil, Nat.zero_add] at hp
    rw [hp]
    have hs : split (jn 44 ((a :: l).map itoa)) [44] = (a :: l).map itoa := split_jn 44 _ (by simp) (nums_no _ (by decide))
    have hm := map_num (l := a :: l) (by rw [← ha]; exact h.args)
    rcases x with ⟨a', b, c, d, e⟩
    simp only at ha
    subst ha
    simp only [hs, hm, if_true]
    rfl
theorem condOf_W {c : R.Cd} (h : CdS c) : condOf (condW c) = c := by
  have hp := parts_jn [c.kind, c.hole, c.imm] (by simp [h.kind, h.hole, h.imm]) (by simp)
  simp only [List.length_cons, List.length_nil, Nat.zero_add] at hp
  have hW : condW c = jn 46 ([c.kind, c.hole, c.imm].map itoa) := rfl
  unfold condOf
  rw [hW, hp]
  rfl
theorem fields_jn (l : List Int) (h : ∀ a ∈ l, U32 a) (hn : l ≠ []) : fieldsR (jn 46 (l.map itoa)) = l ++ [0, 0, 0, 0] := by
  unfold fieldsR
  rw [pcs_jn 46 (l.map itoa) (by simpa using hn) (nums_no l (by decide)), map_rnum h]
theorem nodeR_W {x : T.Nd} (h : NdS x) : nodeR (nodeW x) = x := by
  have hp := fields_jn [x.op, x.w, x.fl, x.imm] (by simp [h.op, h.w, h.fl, h.imm]) (by simp)
  have hno : (44 : UInt8) ∉ jn 46 ([x.op, x.w, x.fl, x.imm].map itoa) := fun hc => absurd (jn46_byte _ _ hc) (by decide)
  have hnW : nodeW x = jn 44 (jn 46 ([x.op, x.w, x.fl, x.imm].map itoa) :: x.args.map itoa) := rfl
  have hq : pcs 44 (nodeW x) = jn 46 ([x.op, x.w, x.fl, x.imm].map itoa) :: x.args.map itoa := by
    rw [hnW]
    refine pcs_jn 44 _ (by simp) fun y hy => ?_
    rcases List.mem_cons.1 hy with rfl | hy
    · exact hno
    · exact nums_no _ (by decide) y hy
  unfold nodeR
  rw [hq]
  simp only [List.headD_cons, List.tail_cons]
  rw [hp, map_rnum h.args]
  rfl
theorem condR_W {c : R.Cd} (h : CdS c) : condR (condW c) = c := by
  have hp := fields_jn [c.kind, c.hole, c.imm] (by simp [h.kind, h.hole, h.imm]) (by simp)
  have hno : (44 : UInt8) ∉ condW c := fun hc => absurd (condW_byte _ _ hc) (by decide)
  have hW : condW c = jn 46 ([c.kind, c.hole, c.imm].map itoa) := rfl
  unfold condR
  rw [pcs_not 44 _ hno]
  simp only [List.headD_cons]
  rw [hW, hp]
  rfl
theorem upTo_app {e : List UInt8} : ∀ (l m : List (List UInt8)), (∀ x ∈ l, x ≠ e) → upTo e (l ++ e :: m) = l ∧ past e (l ++ e :: m) = m := by
  intro l
  induction l with
  | nil => intro m _; simp [upTo, past]
  | cons x l ih =>
    intro m h
    obtain ⟨h1, h2⟩ := ih m fun y hy => h y (List.mem_cons_of_mem _ hy)
    rw [List.cons_append, upTo, past, if_neg (h x (by simp)), if_neg (h x (by simp)), h1, h2]
    exact ⟨rfl, rfl⟩
theorem upTo_all {e : List UInt8} : ∀ (l : List (List UInt8)), (∀ x ∈ l, x ≠ e) → upTo e l = l := by
  intro l
  induction l with
  | nil => intro _; rfl
  | cons x l ih => intro h; rw [upTo, if_neg (h x (by simp)), ih fun y hy => h y (List.mem_cons_of_mem _ hy)]
theorem map_back {α : Type} {f : α → List UInt8} {g : List UInt8 → α} {l : List α} (h : ∀ a ∈ l, g (f a) = a) : (l.map f).map g = l := by
  rw [List.map_map]
  conv => rhs; rw [← List.map_id l]
  exact List.map_congr_left fun a ha => h a ha
theorem candP_text {r : R.Rl} (h : RlS r) : candP (textW r) = r := by
  unfold candP
  rw [split_text]
  unfold wordsOf
  obtain ⟨a1, a2⟩ := upTo_app (e := arrow) (r.left.map nodeW) (r.right.map nodeW ++ iff_ :: r.pre.map condW) (by
    intro x hx; obtain ⟨y, _, rfl⟩ := List.mem_map.1 hx; exact nodeW_arrow y)
  obtain ⟨b1, b2⟩ := upTo_app (e := iff_) (r.right.map nodeW) (r.pre.map condW) (by
    intro x hx; obtain ⟨y, _, rfl⟩ := List.mem_map.1 hx; exact nodeW_iff y)
  have c1 := upTo_all (e := []) (r.pre.map condW) (by
    intro x hx; obtain ⟨y, _, rfl⟩ := List.mem_map.1 hx; exact condW_ne y)
  rw [a1, a2, b1, b2, c1, map_back fun a ha => nodeOf_W (h.left a ha), map_back fun a ha => nodeOf_W (h.right a ha), map_back fun a ha => condOf_W (h.pre a ha)]
theorem step_left {q : R.Rl} : ∀ (l : List T.Nd) (q : R.Rl), (∀ x ∈ l, NdS x) → (l.map nodeW).foldl stepR ((0 : Int), q) = ((0 : Int), { q with left := q.left ++ l }) := by
  intro l
  induction l with
  | nil => intro q _; simp
  | cons x l ih =>
    intro q h
    have h0 : stepR (0, q) (nodeW x) = (0, { q with left := q.left ++ [x] }) := by
      unfold stepR
      rw [if_neg (by simp [nodeW_arrow, nodeW_iff]), if_neg (by show ¬ (0 : Int) = 2; decide), if_pos rfl, nodeR_W (h x (by simp))]
    rw [List.map_cons, List.foldl_cons, h0, ih _ fun y hy => h y (List.mem_cons_of_mem _ hy)]
    simp
theorem step_right : ∀ (l : List T.Nd) (q : R.Rl), (∀ x ∈ l, NdS x) → (l.map nodeW).foldl stepR ((1 : Int), q) = ((1 : Int), { q with right := q.right ++ l }) := by
  intro l
  induction l with
  | nil => intro q _; simp
  | cons x l ih =>
    intro q h
    have h0 : stepR (1, q) (nodeW x) = (1, { q with right := q.right ++ [x] }) := by
      unfold stepR
      rw [if_neg (by simp [nodeW_arrow, nodeW_iff]), if_neg (by show ¬ (1 : Int) = 2; decide), if_neg (by show ¬ (1 : Int) = 0; decide), if_pos rfl, nodeR_W (h x (by simp))]
    rw [List.map_cons, List.foldl_cons, h0, ih _ fun y hy => h y (List.mem_cons_of_mem _ hy)]
    simp
theorem step_pre : ∀ (l : List R.Cd) (q : R.Rl), (∀ x ∈ l, CdS x) → (l.map condW).foldl stepR ((2 : Int), q) = ((2 : Int), { q with pre := q.pre ++ l }) := by
  intro l
  induction l with
  | nil => intro q _; simp
  | cons x l ih =>
    intro q h
    have h0 : stepR (2, q) (condW x) = (2, { q with pre := q.pre ++ [x] }) := by
      unfold stepR
      rw [if_neg (by simp [condW_arrow, condW_iff]), if_pos rfl, condR_W (h x (by simp))]
    rw [List.map_cons, List.foldl_cons, h0, ih _ fun y hy => h y (List.mem_cons_of_mem _ hy)]
    simp
theorem candR_text {r : R.Rl} (h : RlS r) : candR (textW r) = r := by
  unfold candR
  rw [pcs_text]
  unfold wordsOf
  have ea : ∀ q, stepR (0, q) arrow = (1, q) := fun q => by unfold stepR; rw [if_pos (.inl rfl)]; rfl
  have ei : ∀ q, stepR (1, q) iff_ = (2, q) := fun q => by unfold stepR; rw [if_pos (.inr rfl)]; rfl
  rw [List.foldl_append, step_left (q := r) r.left _ h.left, List.foldl_cons, ea, List.foldl_append, step_right r.right _ h.right, List.foldl_cons, ei, step_pre r.pre _ h.pre]
  simp
/-- a rule's text tells it -/
theorem textW_inj {r q : R.Rl} (hr : RlS r) (hq : RlS q) (h : textW r = textW q) : r = q := by
  rw [← candP_text hr, h, candP_text hq]
end KT
end Go.Proofs.YtbiopedpceddeaaGreatDoor
end
