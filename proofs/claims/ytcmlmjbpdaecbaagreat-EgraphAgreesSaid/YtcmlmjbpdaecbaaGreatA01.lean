/- Merged: PlainB, Maps, B1, B2, B3, B4, B5, B6, B7, PlainB2. -/
import Derived.Test.YtcmlmjbpdaecbaaGreatA00
import Derived.Maps.Keyed
import Derived.Maps.OwnOps
import Derived.Carry
import Derived.ChangeMaps5
import Derived.Test.YtcmlmjbpdaecbaaGreatProg
import Derived.Laws.BitsAllLaws
import Derived.Laws.EntriesVeiled
import Derived.Shelf.Abstract
import Derived.Deep.RegionWith
import Derived.StillTailTactics
import Derived.BigRegion
set_option linter.unusedVariables false
set_option linter.unusedSimpArgs false
section
namespace Go.Proofs.YtcmlmjbpdaecbaaGreat.B
set_option linter.unusedVariables false
set_option linter.unusedSimpArgs false

/-- 2^n -/
def pw (n : Int) : Int := 2 ^ n.toNat
/-- the signed value of a word -/
def sg (n a : Int) : Int := if pw (n - 1) ≤ a then a - pw n else a
def isWd (n : Int) : Bool := decide (1 ≤ n) && decide (n ≤ 32)
def isW (n a : Int) : Bool := isWd n && decide (a < pw n)

theorem pw_pos (n : Int) : 0 < pw n := Int.pow_pos (by decide)
theorem pw_nat (n : Int) : pw n = ((2 ^ n.toNat : Nat) : Int) := by unfold pw; simp
theorem pw_mono {m n : Int} (h : m ≤ n) : pw m ≤ pw n := by
  rw [pw_nat, pw_nat]
  exact Int.ofNat_le.2 (Nat.pow_le_pow_right (by decide) (by omega))
theorem pw_32 : pw 32 = 4294967296 := by decide
theorem pw_le {n : Int} (h : n ≤ 32) : pw n ≤ 4294967296 := by rw [← pw_32]; exact pw_mono h
theorem pw_le31 {n : Int} (h : n ≤ 31) : pw n ≤ 2147483648 := by
  have := pw_mono h
  have e : pw 31 = 2147483648 := by decide
  omega
theorem pw_succ {n : Int} (h : 1 ≤ n) : pw n = 2 * pw (n - 1) := by
  unfold pw
  have : n.toNat = (n - 1).toNat + 1 := by omega
  rw [this, Int.pow_succ]; omega
theorem pw_ge2 {n : Int} (h : 1 ≤ n) : 2 ≤ pw n := by have := pw_pos (n - 1); rw [pw_succ h]; omega
theorem pw_dvd {m n : Int} (h : m ≤ n) : pw m ∣ pw n := by
  unfold pw
  rw [show n.toNat = m.toNat + (n.toNat - m.toNat) by omega, Int.pow_add]
  exact Int.dvd_mul_right _ _
theorem mod_mod {n : Int} (x : Int) (h : n ≤ 32) : x % 4294967296 % pw n = x % pw n := by
  rw [← pw_32]; exact Int.emod_emod_of_dvd x (pw_dvd h)
theorem isWd_iff {n : Int} : isWd n = true ↔ 1 ≤ n ∧ n ≤ 32 := by unfold isWd; simp
theorem isW_iff {n a : Int} : isW n a = true ↔ 1 ≤ n ∧ n ≤ 32 ∧ a < pw n := by unfold isW; simp [isWd_iff, and_assoc]
theorem sg_lo {n a : Int} (h : 1 ≤ n) (h0 : 0 ≤ a) : -pw (n - 1) ≤ sg n a := by
  have := pw_succ h
  have := pw_pos (n - 1)
  unfold sg; split <;> omega
theorem sg_hi {n a : Int} (h : 1 ≤ n) (h1 : a < pw n) : sg n a < pw (n - 1) := by
  have := pw_succ h
  have := pw_pos (n - 1)
  unfold sg; split <;> omega
theorem sg_mod {n a : Int} : sg n a % pw n = a % pw n := by
  unfold sg; split
  · exact Int.sub_emod_right a (pw n)
  · rfl
theorem sg_zero {n a : Int} (h : 1 ≤ n) (h0 : 0 ≤ a) (h1 : a < pw n) : sg n a = 0 ↔ a = 0 := by
  have := pw_succ h
  have := pw_pos (n - 1)
  unfold sg; split <;> omega

/-- The word that an operation makes, if there is one. -/
def do_ (op n a b : Int) : Option Int :=
  if op = 1 then some ((a + b) % pw n)
  else if op = 2 then some ((a - b) % pw n)
  else if op = 3 then some ((a * b) % pw n)
  else if op = 4 then (if b = 0 then none else some (a / b))
  else if op = 5 then (if b = 0 then none else some (a % b))
  else if op = 6 then (if b = 0 ∨ (sg n a = -pw (n - 1) ∧ sg n b = -1) then none else some ((sg n a).tdiv (sg n b) % pw n))
  else if op = 7 then (if b = 0 ∨ (sg n a = -pw (n - 1) ∧ sg n b = -1) then none else some ((sg n a).tmod (sg n b) % pw n))
  else if op = 8 then some ((a.toNat &&& b.toNat : Nat) : Int)
  else if op = 9 then some ((a.toNat ||| b.toNat : Nat) : Int)
  else if op = 10 then some ((a.toNat ^^^ b.toNat : Nat) : Int)
  else if op = 11 then (if n ≤ b then none else some (a * pw b % pw n))
  else if op = 12 then (if n ≤ b then none else some (a / pw b))
  else (if n ≤ b then none else some (sg n a / pw b % pw n))

/-- What the solver takes where there is none. -/
def els (op n a b : Int) : Int :=
  if op = 4 then pw n - 1
  else if op = 5 then a
  else if op = 6 then (if b ≠ 0 then a else if sg n a < 0 then 1 else pw n - 1)
  else if op = 7 then (if b ≠ 0 then 0 else a)
  else if op = 13 then (if sg n a < 0 then pw n - 1 else 0)
  else 0

def full (op n a b : Int) : Int := (do_ op n a b).getD (els op n a b)
def okOp (op n a b : Int) : Bool := decide (1 ≤ op) && decide (op ≤ 13) && isW n a && isW n b
def total (op n a b : Int) : Int × Int := if okOp op n a b = true then (full op n a b, 0) else (0, 1)

theorem land_lt {n : Int} {a b : Int} (h0 : 0 ≤ a) (h1 : a < pw n) : (a.toNat &&& b.toNat : Nat) < pw n := by
  rw [pw_nat] at *
  exact Int.ofNat_lt.2 (Nat.lt_of_le_of_lt Nat.and_le_left (by omega))
theorem lor_lt {n : Int} {a b : Int} (h1 : a < pw n) (h2 : b < pw n) : (a.toNat ||| b.toNat : Nat) < pw n := by
  rw [pw_nat] at *
  exact Int.ofNat_lt.2 (Nat.or_lt_two_pow (by have := Nat.two_pow_pos n.toNat; omega) (by have := Nat.two_pow_pos n.toNat; omega))
theorem lxor_lt {n : Int} {a b : Int} (h1 : a < pw n) (h2 : b < pw n) : (a.toNat ^^^ b.toNat : Nat) < pw n := by
  rw [pw_nat] at *
  exact Int.ofNat_lt.2 (Nat.xor_lt_two_pow (by have := Nat.two_pow_pos n.toNat; omega) (by have := Nat.two_pow_pos n.toNat; omega))
theorem mod_lo {x n : Int} : 0 ≤ x % pw n := Int.emod_nonneg _ (by have := pw_pos n; omega)
theorem mod_hi {x n : Int} : x % pw n < pw n := Int.emod_lt_of_pos _ (pw_pos n)

section
variable (n a b : Int)
theorem do_1 : do_ 1 n a b = some ((a + b) % pw n) := rfl
theorem do_2 : do_ 2 n a b = some ((a - b) % pw n) := rfl
theorem do_3 : do_ 3 n a b = some ((a * b) % pw n) := rfl
theorem do_4 : do_ 4 n a b = (if b = 0 then none else some (a / b)) := rfl
theorem do_5 : do_ 5 n a b = (if b = 0 then none else some (a % b)) := rfl
theorem do_6 : do_ 6 n a b = (if b = 0 ∨ (sg n a = -pw (n - 1) ∧ sg n b = -1) then none else some ((sg n a).tdiv (sg n b) % pw n)) := rfl
theorem do_7 : do_ 7 n a b = (if b = 0 ∨ (sg n a = -pw (n - 1) ∧ sg n b = -1) then none else some ((sg n a).tmod (sg n b) % pw n)) := rfl
theorem do_8 : do_ 8 n a b = some ((a.toNat &&& b.toNat : Nat) : Int) := rfl
theorem do_9 : do_ 9 n a b = some ((a.toNat ||| b.toNat : Nat) : Int) := rfl
theorem do_10 : do_ 10 n a b = some ((a.toNat ^^^ b.toNat : Nat) : Int) := rfl
theorem do_11 : do_ 11 n a b = (if n ≤ b then none else some (a * pw b % pw n)) := rfl
theorem do_12 : do_ 12 n a b = (if n ≤ b then none else some (a / pw b)) := rfl
theorem do_13 : do_ 13 n a b = (if n ≤ b then none else some (sg n a / pw b % pw n)) := rfl
end
theorem op_cases {op : Int} (h : 1 ≤ op) (h' : op ≤ 13) : op = 1 ∨ op = 2 ∨ op = 3 ∨ op = 4 ∨ op = 5 ∨ op = 6 ∨ op = 7 ∨ op = 8 ∨ op = 9 ∨ op = 10 ∨ op = 11 ∨ op = 12 ∨ op = 13 := by omega

/-- What an operation makes of words is a word. -/
theorem full_word {op n a b : Int} (ho : 1 ≤ op) (ho' : op ≤ 13) (hn : 1 ≤ n) (ha0 : 0 ≤ a) (ha : a < pw n) (hb0 : 0 ≤ b) (hb : b < pw n) : 0 ≤ full op n a b ∧ full op n a b < pw n := by
  have h1 := pw_ge2 hn
  have hand := land_lt (n := n) (b := b) ha0 ha
  have hor := lor_lt (n := n) ha hb
  have hxor := lxor_lt (n := n) ha hb
  have hq : 0 ≤ a / b ∧ a / b ≤ a := ⟨Int.ediv_nonneg ha0 hb0, Int.ediv_le_self b ha0⟩
  have hs : 0 ≤ a / pw b ∧ a / pw b ≤ a := ⟨Int.ediv_nonneg ha0 (by have := pw_pos b; omega), Int.ediv_le_self _ ha0⟩
  have hels : 0 ≤ els op n a b ∧ els op n a b < pw n := by
    unfold els
    repeat' split
    all_goals omega
  have key : ∀ r, do_ op n a b = r → 0 ≤ r.getD (els op n a b) ∧ r.getD (els op n a b) < pw n := by
    intro r hr
    rcases op_cases ho ho' with rfl | rfl | rfl | rfl | rfl | rfl | rfl | rfl | rfl | rfl | rfl | rfl | rfl
    · rw [do_1] at hr; subst hr; exact ⟨mod_lo, mod_hi⟩
    · rw [do_2] at hr; subst hr; exact ⟨mod_lo, mod_hi⟩
    · rw [do_3] at hr; subst hr; exact ⟨mod_lo, mod_hi⟩
    · rw [do_4] at hr; split at hr <;> subst hr
      · exact hels
      · simp only [Option.getD_some]; omega
    · rw [do_5] at hr; split at hr <;> subst hr
      · exact hels
      · simp only [Option.getD_some]
        have := Int.emod_lt_of_pos a (show 0 < b by omega)
        have := Int.emod_nonneg a (show b ≠ 0 by omega)
        omega
    · rw [do_6] at hr; split at hr <;> subst hr
      · exact hels
      · exact ⟨mod_lo, mod_hi⟩
    · rw [do_7] at hr; split at hr <;> subst hr
      · exact hels
      · exact ⟨mod_lo, mod_hi⟩
    · rw [do_8] at hr; subst hr; simp only [Option.getD_some]; omega
    · rw [do_9] at hr; subst hr; simp only [Option.getD_some]; omega
    · rw [do_10] at hr; subst hr; simp only [Option.getD_some]; omega
    · rw [do_11] at hr; split at hr <;> subst hr
      · exact hels
      · exact ⟨mod_lo, mod_hi⟩
    · rw [do_12] at hr; split at hr <;> subst hr
      · exact hels
      · simp only [Option.getD_some]; omega
    · rw [do_13] at hr; split at hr <;> subst hr
      · exact hels
      · exact ⟨mod_lo, mod_hi⟩
  exact key _ rfl

end Go.Proofs.YtcmlmjbpdaecbaaGreat.B
end
section
namespace Go.Proofs.YtcmlmjbpdaecbaaGreat
open Go.RowKit Go.MapKept Go.Maps

namespace AL
variable {κ α : Type} [DecidableEq κ]
def get : List (κ × α) → κ → Option α
  | [], _ => none
  | p :: l, k => if p.1 = k then some p.2 else get l k
def put : List (κ × α) → κ → α → List (κ × α)
  | [], k, a => [(k, a)]
  | p :: l, k, a => if p.1 = k then (k, a) :: l else p :: put l k a
theorem get_none {l : List (κ × α)} {k : κ} (h : ∀ p ∈ l, p.1 ≠ k) : get l k = none := by
  induction l with
  | nil => rfl
  | cons p l ih => rw [get, if_neg (h p (by simp)), ih (fun q hq => h q (by simp [hq]))]
theorem get_some {l : List (κ × α)} {k : κ} {a : α} {j : Nat} (hd : (l.map Prod.fst).Nodup) (h : l[j]? = some (k, a)) : get l k = some a := by
  induction l generalizing j with
  | nil => simp at h
  | cons p l ih =>
    rw [List.map_cons, List.nodup_cons] at hd
    cases j with
    | zero => simp at h; subst h; simp [get]
    | succ j =>
      simp at h
      have hm : k ∈ l.map Prod.fst := List.mem_map.2 ⟨(k, a), List.mem_of_getElem? h, rfl⟩
      rw [get, if_neg (fun e => hd.1 (by rw [e]; exact hm))]
      exact ih hd.2 h
theorem put_none {l : List (κ × α)} {k : κ} (h : ∀ p ∈ l, p.1 ≠ k) (a : α) : put l k a = l ++ [(k, a)] := by
  induction l with
  | nil => rfl
  | cons p l ih => rw [put, if_neg (h p (by simp)), ih (fun q hq => h q (by simp [hq]))]; rfl
theorem put_some {l : List (κ × α)} {k : κ} {a0 : α} {j : Nat} (hd : (l.map Prod.fst).Nodup) (h : l[j]? = some (k, a0)) (a : α) : put l k a = l.set j (k, a) := by
  induction l generalizing j with
  | nil => simp at h
  | cons p l ih =>
    rw [List.map_cons, List.nodup_cons] at hd
    cases j with
    | zero => simp at h; subst h; simp [put]
    | succ j =>
      simp at h
      have hm : k ∈ l.map Prod.fst := List.mem_map.2 ⟨(k, a0), List.mem_of_getElem? h, rfl⟩
      rw [put, if_neg (fun e => hd.1 (by rw [e]; exact hm)), ih hd.2 h]
      rfl
theorem get_put_same (l : List (κ × α)) (k : κ) (a : α) : get (put l k a) k = some a := by
  induction l with
  | nil => simp [put, get]
  | cons p l ih => unfold put; split <;> simp_all [get]
theorem get_put_other (l : List (κ × α)) {k k' : κ} (a : α) (h : k' ≠ k) : get (put l k a) k' = get l k' := by
  induction l with
  | nil => simp [put, get, Ne.symm h]
  | cons p l ih =>
    unfold put
    split
    · rename_i e; simp [get, e, Ne.symm h]
    · simp only [get, ih]
theorem get_mem {l : List (κ × α)} {k : κ} {a : α} (h : get l k = some a) : (k, a) ∈ l := by
  induction l with
  | nil => simp [get] at h
  | cons p l ih =>
    unfold get at h
    split at h
    · rename_i e; cases h; subst e; simp
    · exact List.mem_cons_of_mem _ (ih h)
theorem mem_put {l : List (κ × α)} {k : κ} {a : α} {p : κ × α} (h : p ∈ put l k a) : p ∈ l ∨ p = (k, a) := by
  induction l with
  | nil => simpa [put] using h
  | cons q l ih =>
    unfold put at h
    split at h
    · rcases List.mem_cons.1 h with h | h
      · exact .inr h
      · exact .inl (by simp [h])
    · rcases List.mem_cons.1 h with h | h
      · exact .inl (by simp [h])
      · rcases ih h with h | h
        · exact .inl (by simp [h])
        · exact .inr h
theorem length_put (l : List (κ × α)) (k : κ) (a : α) : (put l k a).length = if get l k = none then l.length + 1 else l.length := by
  induction l with
  | nil => simp [put, get]
  | cons p l ih =>
    unfold put get
    split
    · simp
    · simp only [List.length_cons, ih]; split <;> simp_all
end AL

def MapEnt {κ α : Type} (P : Program) (kt : TypeId) (ek : κ → Value) (R : World → κ → Value → α → Prop) (w : World) (es : Array MapEntry) (l : List (κ × α)) : Prop :=
  ∀ (i : Nat) (k : κ) (a : α), l[i]? = some (k, a) → ∃ e : MapEntry, es.toList[i]? = some e ∧ e.key = ek k ∧ R w k e.val a ∧ ∃ kl, keyOf P kt (ek k) = some kl

/-- Block b is a map that holds the association list l, in the order of its making: keys by ek, elements read by R. -/
def MapAt {κ α : Type} (P : Program) (kt : TypeId) (ek : κ → Value) (R : World → κ → Value → α → Prop) (w : World) (b : Nat) (l : List (κ × α)) : Prop :=
  ∃ (es : Array MapEntry) (clock : Nat), w.heap[b]? = some (.map es clock) ∧ Stamped es clock ∧ es.toList.length = l.length ∧
    MapEnt P kt ek R w es l

section
variable {κ α : Type} {P : Program} {kt et t : TypeId} {ek : κ → Value} {R : World → κ → Value → α → Prop} {w w' : World} {b : Nat} {l : List (κ × α)}

theorem MapAt.lt (h : MapAt P kt ek R w b l) : b < w.heap.size := by
  obtain ⟨es, clock, hb, _⟩ := h
  exact (Array.getElem?_eq_some_iff.1 hb).1

theorem MapAt.made (w : World) : MapAt P kt ek R (w.alloc (.map #[] 0)) w.heap.size [] :=
  ⟨#[], 0, heap_alloc_new w _, stamped_empty 0, by simp, by intro i k a h; simp at h⟩

/-- The map stays while its block stays, and its elements go on reading as they did. -/
theorem MapAt.keep {R' : World → κ → Value → α → Prop} (h : MapAt P kt ek R w b l) (hb : w'.heap[b]? = w.heap[b]?) (hR : ∀ k u a, R w k u a → R' w' k u a) : MapAt P kt ek R' w' b l := by
  obtain ⟨es, clock, h1, h2, h3, h4⟩ := h
  refine ⟨es, clock, hb.trans h1, h2, h3, fun i k a hi => ?_⟩
  obtain ⟨e, e1, e2, e3, e4⟩ := h4 i k a hi
  exact ⟨e, e1, e2, hR _ _ _ e3, e4⟩

theorem mapAt_entry {es : Array MapEntry} (hl : es.toList.length = l.length) {j : Nat} {e : MapEntry} (he : es.toList[j]? = some e) : ∃ k a, l[j]? = some (k, a) := by
  have hj : j < l.length := by rw [← hl]; exact (List.getElem?_eq_some_iff.1 he).1
  exact ⟨l[j].1, l[j].2, List.getElem?_eq_getElem hj⟩

theorem mapAt_nodup {es : Array MapEntry} {clock : Nat} (hs : Stamped es clock) (hl : es.toList.length = l.length)
    (h4 : MapEnt P kt ek R w es l) : (l.map Prod.fst).Nodup := by
  have hp := ((stamped_iff es clock).1 hs).2.2
  rw [List.Nodup, List.pairwise_map, List.pairwise_iff_getElem]
  intro i j hi hj hij e
  rw [List.pairwise_iff_getElem] at hp
  obtain ⟨ei, h1, h2, _⟩ := h4 i l[i].1 l[i].2 (List.getElem?_eq_getElem hi)
  obtain ⟨ej, h3, h5, _⟩ := h4 j l[j].1 l[j].2 (List.getElem?_eq_getElem hj)
  have := hp i j (by omega) (by omega) hij
  rw [List.getElem?_eq_getElem (by omega)] at h1 h3
  rw [Option.some.inj h1, Option.some.inj h3, h2, h5, e] at this
  exact this rfl

theorem MapAt.find (h : MapAt P kt ek R w b l) (K : Keyed P kt) (hinj : ∀ a b, ek a = ek b → a = b) {k : κ} {kl : Lit} (hkey : keyOf P kt (ek k) = some kl) :
    ∃ (es : Array MapEntry) (clock : Nat), w.heap[b]? = some (.map es clock) ∧ Stamped es clock ∧ es.toList.length = l.length ∧ (l.map Prod.fst).Nodup ∧
      MapEnt P kt ek R w es l ∧
      (((Instr.findKey kt (ek k) es.toList).run P w = .ok none w ∧ (∀ e ∈ es.toList, e.key ≠ ek k) ∧ ∀ p ∈ l, p.1 ≠ k) ∨
       ∃ j e a, (Instr.findKey kt (ek k) es.toList).run P w = .ok (some (j, e.val)) w ∧ es.toList[j]? = some e ∧ e.key = ek k ∧ l[j]? = some (k, a) ∧ R w k e.val a) := by
  obtain ⟨es, clock, hb, hs, hl, h4⟩ := h
  have hd := mapAt_nodup hs hl h4
  have hkeys : ∀ e ∈ es.toList, ∃ l, keyOf P kt e.key = some l := by
    intro e he
    obtain ⟨j, hj, rfl⟩ := List.mem_iff_getElem.1 he
    obtain ⟨k', a, hka⟩ := mapAt_entry hl (List.getElem?_eq_getElem hj)
    obtain ⟨e', h1, h2, _, kl', h5⟩ := h4 j k' a hka
    rw [List.getElem?_eq_getElem hj] at h1
    exact ⟨kl', by rw [Option.some.inj h1, h2]; exact h5⟩
  refine ⟨es, clock, hb, hs, hl, hd, h4, ?_⟩
  rcases K.find w hkey es.toList hkeys with ⟨h1, h2⟩ | ⟨j, e, h1, h2, h3⟩
  · refine .inl ⟨h1, h2, fun p hp e => ?_⟩
    obtain ⟨i, hi, rfl⟩ := List.mem_iff_getElem.1 hp
    obtain ⟨e', g1, g2, _⟩ := h4 i l[i].1 l[i].2 (List.getElem?_eq_getElem hi)
    exact h2 e' (List.mem_of_getElem? g1) (by rw [g2, e])
  · obtain ⟨k', a, hka⟩ := mapAt_entry hl h2
    obtain ⟨e', g1, g2, g3, _⟩ := h4 j k' a hka
    rw [h2] at g1
    obtain rfl := Option.some.inj g1
    obtain rfl : k' = k := hinj _ _ (by rw [← g2, h3])
    exact .inr ⟨j, e, a, h1, h2, h3, hka, g3⟩

variable [DecidableEq κ]

/-- 'm[k]'; the element type's zero value reads as a0. -/
theorem MapAt.lookup (h : MapAt P kt ek R w b l) (K : Keyed P kt) (hinj : ∀ a b, ek a = ek b → a = b) (ht : P.underlying t = some (.map kt et)) {z : Value} (hz : (zeroValue et).run P w = .ok z w) {k : κ} {kl : Lit} (hkey : keyOf P kt (ek k) = some kl) :
    ∃ u, (Instr.lookup t (.map (some b)) (ek k) false).run P w = .ok u w ∧ (Instr.lookup t (.map (some b)) (ek k) true).run P w = .ok (.tuple #[u, .bool (AL.get l k).isSome]) w ∧
      ((AL.get l k = none ∧ u = z) ∨ ∃ a, AL.get l k = some a ∧ R w k u a) := by
  obtain ⟨es, clock, hb, hs, hl, hd, h4, hf⟩ := h.find K hinj hkey
  rcases hf with ⟨h1, h2, h3⟩ | ⟨j, e, a, h1, h2, h3, hka, hR⟩
  · refine ⟨z, ?_, ?_, .inl ⟨AL.get_none h3, rfl⟩⟩
    · simp [Instr.lookup, run_underlying ht, MapKept.run_getObj_map hb, K.check w _ hkey, h1, hz, Result.andThen]
    · simp [Instr.lookup, run_underlying ht, MapKept.run_getObj_map hb, K.check w _ hkey, h1, hz, Result.andThen, AL.get_none h3]
  · refine ⟨e.val, ?_, ?_, .inr ⟨a, AL.get_some hd hka, hR⟩⟩
    · simp [Instr.lookup, run_underlying ht, MapKept.run_getObj_map hb, K.check w _ hkey, h1, Result.andThen]
    · simp [Instr.lookup, run_underlying ht, MapKept.run_getObj_map hb, K.check w _ hkey, h1, Result.andThen, AL.get_some hd hka]

/-- 'm[k] = v'. -/
theorem MapAt.update (h : MapAt P kt ek R w b l) (K : Keyed P kt) (hinj : ∀ a b, ek a = ek b → a = b) (ht : P.underlying t = some (.map kt et)) {k : κ} {kl : Lit} (hkey : keyOf P kt (ek k) = some kl) (val : Value) :
    ∃ w', (Instr.mapUpdate t (.map (some b)) (ek k) val).run P w = .ok () w' ∧ w.grownBy w' (some b) ∧ w'.heap.size = w.heap.size ∧
      ∀ (R' : World → κ → Value → α → Prop) (a : α), (∀ k' u a', k' ≠ k → R w k' u a' → R' w' k' u a') → R' w' k val a → MapAt P kt ek R' w' b (AL.put l k a) := by
  obtain ⟨es, clock, hb, hs, hl, hd, h4, hf⟩ := h.find K hinj hkey
  rcases hf with ⟨h1, h2, h3⟩ | ⟨j, e0, a0, h1, h2, h3, hka, hR⟩
  · refine ⟨ChangeMaps.setBlock w b (.map (es.push ⟨ek k, val, clock⟩) (clock + 1)), ?_, ⟨rfl, rfl, rfl, by simp [ChangeMaps.setBlock], fun i _ hi => ChangeMaps.heap_setBlock_other hb _ (fun e => hi (by rw [e]))⟩, by simp [ChangeMaps.setBlock], ?_⟩
    · simp [Instr.mapUpdate, run_underlying ht, MapKept.run_getObj_map hb, K.check w false hkey, h1, MapKept.run_setObj_map _ hb, Result.andThen, ChangeMaps.setBlock]
    · intro R' a hR' hv
      refine ⟨_, _, ChangeMaps.heap_setBlock_same hb _, stamped_push hs h2, ?_, ?_⟩
      · rw [AL.put_none h3]; simp; simpa using hl
      · rw [AL.put_none h3]
        intro i k' a' hi
        by_cases hil : i < l.length
        · rw [List.getElem?_append_left hil] at hi
          obtain ⟨e, g1, g2, g3, g4⟩ := h4 i k' a' hi
          refine ⟨e, ?_, g2, hR' _ _ _ (h3 _ (List.mem_of_getElem? hi)) g3, g4⟩
          rw [Array.toList_push, List.getElem?_append_left (by omega)]
          exact g1
        · have hi2 : i < (l ++ [(k, a)]).length := (List.getElem?_eq_some_iff.1 hi).1
          simp at hi2
          obtain rfl : i = l.length := by omega
          simp at hi
          obtain ⟨rfl, rfl⟩ := hi
          refine ⟨⟨ek k, val, clock⟩, ?_, rfl, hv, kl, hkey⟩
          rw [Array.toList_push, List.getElem?_append_right (by omega), hl]
          simp
  · have hj : es[j]? = some e0 := by simpa using h2
    have hjl : j < es.toList.length := (List.getElem?_eq_some_iff.1 h2).1
    have hkeyf : ∀ e', es[j]? = some e' → ({ e' with key := ek k, val := val } : MapEntry).key = e'.key := fun e' he' => by rw [hj] at he'; cases he'; exact h3.symm
    have hlist : (es.modify j (fun e' => { e' with key := ek k, val := val })).toList = es.toList.set j { e0 with key := ek k, val := val } := by rw [Array.toList_modify, ChangeMaps.modify_eq_set _ _ _ _ h2]
    refine ⟨ChangeMaps.setBlock w b (.map (es.modify j (fun e' => { e' with key := ek k, val := val })) clock), ?_, ⟨rfl, rfl, rfl, by simp [ChangeMaps.setBlock], fun i _ hi => ChangeMaps.heap_setBlock_other hb _ (fun e => hi (by rw [e]))⟩, by simp [ChangeMaps.setBlock], ?_⟩
    · simp [Instr.mapUpdate, run_underlying ht, MapKept.run_getObj_map hb, K.check w false hkey, h1, hj, h3, K.stays w hkey, MapKept.run_setObj_map _ hb, Result.andThen, ChangeMaps.setBlock]
    · intro R' a hR' hv
      refine ⟨es.modify j (fun e' => { e' with key := ek k, val := val }), clock, ChangeMaps.heap_setBlock_same hb _, stamped_modify hs _ _ (fun _ _ => rfl) (fun e' _ he' => hkeyf e' he'), ?_, ?_⟩
      · rw [AL.put_some hd hka, hlist]; simp; simpa using hl
      · rw [AL.put_some hd hka]
        intro i k' a' hi
        rw [List.getElem?_set] at hi
        split at hi
        · rename_i hij
          subst hij
          split at hi
          · simp at hi
            obtain ⟨rfl, rfl⟩ := hi
            refine ⟨{ e0 with key := ek k, val := val }, ?_, rfl, hv, kl, hkey⟩
            rw [hlist, List.getElem?_set_self hjl]
          · cases hi
        · rename_i hij
          obtain ⟨e, g1, g2, g3, g4⟩ := h4 i k' a' hi
          refine ⟨e, ?_, g2, hR' _ _ _ ?_ g3, g4⟩
          · rw [hlist, List.getElem?_set_ne hij]; exact g1
          · rintro rfl
            refine hij ?_
            have hi' : i < (l.map Prod.fst).length := by rw [List.length_map]; exact (List.getElem?_eq_some_iff.1 hi).1
            have hj' : j < (l.map Prod.fst).length := by rw [List.length_map]; omega
            have a1 := (List.getElem?_eq_some_iff.1 hi).2
            have a2 := (List.getElem?_eq_some_iff.1 hka).2
            have hp := List.pairwise_iff_getElem.1 hd
            rcases Nat.lt_trichotomy j i with hlt | rfl | hlt
            · exact absurd (by simp only [List.getElem_map, a1, a2]) (hp j i hj' hi' hlt)
            · rfl
            · exact absurd (by simp only [List.getElem_map, a1, a2]) (hp i j hi' hj' hlt)
end

theorem ek_int_inj (q : IntKind) : ∀ a b : Int, Value.int q a = Value.int q b → a = b := fun a b h => by injection h
end Go.Proofs.YtcmlmjbpdaecbaaGreat
end
section
namespace Go.Proofs.YtcmlmjbpdaecbaaGreat
open Go.RowKit

theorem ret_bool {a b : Bool} (h : a = b) : Ending.returned (.bool a) = .returned (.bool b) := by rw [h]
theorem ret_int {k : IntKind} {a b : Int} (h : a = b) : Ending.returned (.int k a) = .returned (.int k b) := by rw [h]

namespace B
theorem pw_sub {n : Int} (h : 1 ≤ n) : (2 : Int) ^ (n.toNat - 1) = pw (n - 1) := by unfold pw; rw [show (n - 1).toNat = n.toNat - 1 by omega]
theorem wrap64_id {x : Int} (h : -9223372036854775808 ≤ x) (h' : x ≤ 9223372036854775807) : wrap64 x = x := IntWalk.wrap64_in x ⟨h, h'⟩
theorem and_mask {n x : Int} (hn : n ≤ 32) (h0 : 0 ≤ x) (h1 : x < 4294967296) : bits .and .u32 x (pw n - 1) = x % pw n := by
  have hp := pw_pos n
  have hl := pw_le hn
  rw [u32_and x (pw n - 1) h0 h1 (by omega) (by omega)]
  have e : (pw n - 1).toNat = 2 ^ n.toNat - 1 := by have := pw_nat n; omega
  rw [e, Nat.and_two_pow_sub_one_eq_mod]
  have h3 : ((x.toNat % 2 ^ n.toNat : Nat) : Int) = (x.toNat : Int) % ((2 ^ n.toNat : Nat) : Int) := Int.natCast_emod _ _
  rw [h3, ← pw_nat, Int.toNat_of_nonneg h0]
end B

theorem isWidth_yes (n : Int) (w : World) (h0 : 1 ≤ n) (h1 : n ≤ 32) : Calls Tryz.prog 76 #[.int .i64 n] w fun e w' => e = .returned (.bool true) ∧ w = w' := by
  go_enter Tryz.func76, Tryz.ntmps76
  go_wp2
  go_ret
  exact ⟨rfl, rfl⟩
theorem isWidth_no (n : Int) (w : World) (h : n < 1 ∨ 32 < n) : Calls Tryz.prog 76 #[.int .i64 n] w fun e w' => e = .returned (.bool false) ∧ w = w' := by
  rcases h with h | h
  · go_enter Tryz.func76, Tryz.ntmps76
    go_wp2
    go_ret
    exact ⟨rfl, rfl⟩
  · have h1 : 1 ≤ n := by omega
    have hd : decide (n ≤ 32) = false := by simp; omega
    go_enter Tryz.func76, Tryz.ntmps76
    go_wp2
    go_ret
    exact ⟨rfl, rfl⟩
theorem isWidth_any (n : Int) (w : World) : Calls Tryz.prog 76 #[.int .i64 n] w fun e w' => e = .returned (.bool (B.isWd n)) ∧ w = w' := by
  cases h : B.isWd n
  · exact isWidth_no n w (by have : ¬ (1 ≤ n ∧ n ≤ 32) := fun hc => by rw [B.isWd_iff.2 hc] at h; cases h
                             omega)
  · have := B.isWd_iff.1 h
    exact isWidth_yes n w this.1 this.2

theorem mask_any (n : Int) (w : World) (h0 : 0 ≤ n) (h1 : n ≤ 32) : Calls Tryz.prog 77 #[.int .i64 n] w fun e w' => e = .returned (.int .u32 (B.pw n - 1)) ∧ w = w' := by
  go_enter Tryz.func77, Tryz.ntmps77
  go_wp2
  go_ret
  refine ⟨ret_int ?_, rfl⟩
  have e : (2 : Int) ^ n.toNat = B.pw n := rfl
  have hp := B.pw_pos n
  have hl := B.pw_le h1
  rw [e, IntKind.wrap_u64, IntKind.wrap_u64]
  omega

theorem Mask_any (n : Int) (w : World) : Calls Tryz.prog 35 #[.int .i64 n] w fun e w' => e = .returned (.tuple #[.int .u32 (if B.isWd n then B.pw n - 1 else 0), .int .i64 (if B.isWd n then 0 else 1)]) ∧ w = w' := by
  have H1 := Lib.hid (isWidth_any n w)
  cases h : B.isWd n
  · rw [h] at H1
    have Hh := Lib.hid h; clear h
    go_enter Tryz.func35, Tryz.ntmps35
    go_wp2_with fail
    refine H1.out.mono ?_
    rintro e w' ⟨rfl, rfl⟩
    go_wp2
    go_ret2
    exact ⟨rfl, rfl⟩
  · have hn := B.isWd_iff.1 h
    rw [h] at H1
    have H2 := Lib.hid (mask_any n w (by omega) hn.2)
    have Hh := Lib.hid h; clear h hn
    go_enter Tryz.func35, Tryz.ntmps35
    go_wp2_with fail
    refine H1.out.mono ?_
    rintro e w' ⟨rfl, rfl⟩
    go_wp2_with fail
    refine H2.out.mono ?_
    rintro e w' ⟨rfl, rfl⟩
    go_wp2
    go_ret2
    exact ⟨rfl, rfl⟩

end Go.Proofs.YtcmlmjbpdaecbaaGreat
end
section
namespace Go.Proofs.YtcmlmjbpdaecbaaGreat
open Go.RowKit
set_option linter.unusedVariables false

namespace B
def has (op n a b : Int) : Bool := (do_ op n a b).isSome
structure Wds (n a b : Int) : Prop where
  n0 : 1 ≤ n
  n1 : n ≤ 32
  a0 : 0 ≤ a
  a1 : a < pw n
  b0 : 0 ≤ b
  b1 : b < pw n
/-- a quotient is within -2^(n-1) .. 2^(n-1) - 1 -/
theorem tdiv_bound (x y : Int) : -x.natAbs ≤ x.tdiv y ∧ x.tdiv y ≤ x.natAbs := by
  have h : (x.tdiv y).natAbs ≤ x.natAbs := by rw [Int.natAbs_tdiv]; exact Nat.div_le_self _ _
  omega
theorem tmod_bound (x y : Int) : -x.natAbs ≤ x.tmod y ∧ x.tmod y ≤ x.natAbs := by
  have h : (x.tmod y).natAbs ≤ x.natAbs := by rw [Int.natAbs_tmod]; exact Nat.mod_le _ _
  omega
theorem mask_mod {n : Int} (x : Int) (hn : n ≤ 32) : bits .and .u32 (x % 4294967296) (pw n - 1) = x % pw n := by
  rw [and_mask hn (Int.emod_nonneg _ (by decide)) (Int.emod_lt_of_pos _ (by decide)), mod_mod _ hn]
end B

theorem ret_iib {a a' b b' : Int} {c : Bool} (h : a = a') (h' : b = b') : Ending.returned (.tuple #[.int .i64 a, .int .i64 b, .bool c]) = .returned (.tuple #[.int .i64 a', .int .i64 b', .bool c]) := by rw [h, h']
theorem ret_wb {a a' : Int} {c c' : Bool} (h : a = a') (h' : c = c') : Ending.returned (.tuple #[.int .u32 a, .bool c]) = .returned (.tuple #[.int .u32 a', .bool c']) := by rw [h, h']

/-- What is asked of the function that does operation k on words. -/
def DoesAt (k : Int) (f : Nat) (caps : Array Value) (w : World) : Prop := ∀ n a b : Int, B.Wds n a b →
  Calls Tryz.prog f (#[.int .i64 n, .int .u32 a, .int .u32 b] ++ caps) w fun e w' => e = .returned (.tuple #[.int .u32 (B.full k n a b), .bool (B.has k n a b)]) ∧ Dr w w'

end Go.Proofs.YtcmlmjbpdaecbaaGreat
end
section
namespace Go.Proofs.YtcmlmjbpdaecbaaGreat
open Go.RowKit
set_option linter.unusedVariables false

end Go.Proofs.YtcmlmjbpdaecbaaGreat
end
section
namespace Go.Proofs.YtcmlmjbpdaecbaaGreat
open Go.RowKit Go.Maps Go.Shelf
set_option linter.unusedVariables false

theorem take_succ_of {α : Type} {xs : List α} {k : Nat} {x : α} (h : xs[k]? = some x) : xs.take (k + 1) = xs.take k ++ [x] := by
  rw [List.take_add_one, h]; rfl
theorem take_all {α : Type} {xs : List α} {n k : Nat} (hn : xs.length = n) (h : n ≤ k) : xs.take k = xs := List.take_of_length_le (by omega)
theorem all_take_step {α : Type} {p : α → Bool} {xs : List α} {k : Nat} {x : α} (hx : xs[k]? = some x) (h : (xs.take k).all p = true) (hp : p x = true) : (xs.take (k + 1)).all p = true := by
  rw [take_succ_of hx, List.all_append, h]; simp [hp]
theorem all_false_at {α : Type} {p : α → Bool} {xs : List α} {k : Nat} {x : α} (hx : xs[k]? = some x) (hp : p x = false) : xs.all p = false := by
  cases h : xs.all p
  · rfl
  · rw [List.all_eq_true] at h; rw [h x (List.mem_of_getElem? hx)] at hp; cases hp

/-- 'm[k] = v' of a composite literal, at the operation. -/
theorem wpList_insert_at {κ α : Type} [DecidableEq κ] {P : Program} {kt et t : TypeId} {ek : κ → Value} {R : World → κ → Value → α → Prop} {w : World} {b : Nat} {l : List (κ × α)}
    {ops : Array Oper} {rest : List Oper} {o : Oper} {a : Act} {Q : Exit → Act → World → Prop} (hg : o.guard = none) (m x v : Operand) (hop : o.op = Op.insert t m x v)
    (h : MapAt P kt ek R w b l) (K : Keyed P kt) (hinj : ∀ a b, ek a = ek b → a = b) (ht : P.underlying t = some (.map kt et)) (k : κ) (val : Value) {kl : Lit} (hkey : keyOf P kt (ek k) = some kl)
    (hm : a.eval m = .map (some b)) (hx : a.eval x = ek k) (hv : a.eval v = val)
    (hK : ∀ w', w.grownBy w' (some b) → w'.heap.size = w.heap.size → (∀ (R' : World → κ → Value → α → Prop) (a : α), (∀ k' u a', k' ≠ k → R w k' u a' → R' w' k' u a') → R' w' k val a → MapAt P kt ek R' w' b (AL.put l k a)) →
      wpList P ops Q rest (a.put o.dst undef) w') : wpList P ops Q (o :: rest) a w := by
  refine wpList_plain hg fun K' hK' => ?_
  obtain ⟨w', hrun, r1, r2, r3⟩ := h.update K hinj ht hkey val
  unfold Oper.wp
  simp [execOp, hop, hm, hx, hv, hrun, Result.andThen]
  exact hK' _ _ (hK w' r1 r2 r3)

/-- An element of the table of operations: its function does what operation k does, as long as the blocks that it has captured stay. -/
def ElB (b : Nat) (w : World) (k : Int) (u : Value) (_ : Unit) : Prop :=
  ∃ (f : Nat) (caps : Array Value) (v1 v2 : Value) (own : List Nat), u = .agg #[.func (.func f) #[] caps, v1, v2] ∧ (v1.oneCell' = true ∧ v2.oneCell' = true) ∧ (∀ args w, (callFunc f args).run Tryz.prog w = .ok (.enter f args) w) ∧
    (∀ B0 ∈ own, B0 < w.heap.size ∧ b < B0) ∧ ∀ W : World, (∀ B0 ∈ own, W.heap[B0]? = w.heap[B0]?) → DoesAt k f caps W

theorem ElB.keep {b : Nat} {w w' : World} {k : Int} {u : Value} {x : Unit} (h : ElB b w k u x) (hg : w.grownBy w' (some b)) : ElB b w' k u x := by
  obtain ⟨f, caps, v1, v2, own, hu, hv, he, ho, hd⟩ := h
  exact ⟨f, caps, v1, v2, own, hu, hv, he, fun B0 hB => ⟨Nat.lt_of_lt_of_le (ho B0 hB).1 hg.size, (ho B0 hB).2⟩, fun W hW => hd W fun B0 hB => (hW B0 hB).trans (hg.block B0 (ho B0 hB).1 (fun e => Nat.lt_irrefl b (by injection e with e; have h9 := (ho B0 hB).2; rw [e] at h9; exact h9)))⟩
theorem ElB.below {b : Nat} {w w' : World} {k : Int} {u : Value} {x : Unit} (h : ElB b w k u x) (hb : Below w.heap.size w w') : ElB b w' k u x := by
  obtain ⟨f, caps, v1, v2, own, hu, hv, he, ho, hd⟩ := h
  exact ⟨f, caps, v1, v2, own, hu, hv, he, fun B0 hB => ⟨Nat.lt_of_lt_of_le (ho B0 hB).1 hb.size, (ho B0 hB).2⟩, fun W hW => hd W fun B0 hB => (hW B0 hB).trans (hb.block B0 (ho B0 hB).1)⟩

theorem elB_fn {b : Nat} {w : World} {k : Int} {f : Nat} {v1 v2 : Value} (hv : v1.oneCell' = true ∧ v2.oneCell' = true) (eg : ∀ args w, (callFunc f args).run Tryz.prog w = .ok (.enter f args) w) (hd : ∀ W, DoesAt k f #[] W) :
    ElB b w k (.agg #[.func (.func f) #[] #[], v1, v2]) () :=
  ⟨f, #[], v1, v2, [], rfl, hv, eg, fun B0 h => by simp at h, fun W _ => hd W⟩
end Go.Proofs.YtcmlmjbpdaecbaaGreat
end
section
namespace Go.Proofs.YtcmlmjbpdaecbaaGreat
open Go.RowKit Go.Maps Go.Shelf
set_option linter.unusedVariables false

def OpsAt (b : Nat) (w : World) (l : List (Int × Unit)) : Prop := MapAt Tryz.prog 3 (Value.int .i64) (ElB b) w b l

theorem OpsAt.below {b : Nat} {w w' : World} {l : List (Int × Unit)} (h : OpsAt b w l) (hb : Below w.heap.size w w') : OpsAt b w' l :=
  MapAt.keep h (hb.block b h.lt) fun k u a hu => hu.below hb
theorem OpsAt.put {b : Nat} {w w' : World} {l : List (Int × Unit)} {k : Int} {val : Value} (hg : w.grownBy w' (some b))
    (hput : ∀ (R' : World → Int → Value → Unit → Prop) (a : Unit), (∀ k' u a', k' ≠ k → ElB b w k' u a' → R' w' k' u a') → R' w' k val a → MapAt Tryz.prog 3 (Value.int .i64) R' w' b (AL.put l k a)) (hv : ElB b w k val ()) : OpsAt b w' (AL.put l k ()) :=
  hput (ElB b) () (fun _ _ _ _ h => h.keep hg) (hv.keep hg)
theorem OpsAt.made (w : World) : OpsAt w.heap.size (w.alloc (.map #[] 0)) [] := MapAt.made w
theorem below_put {b : Nat} {w0 w w' : World} (hb : Below w0.heap.size w0 w) (hB : w0.heap.size ≤ b) (hg : w.grownBy w' (some b)) : Below w0.heap.size w0 w' := hb.grown hg hb.size (fun k e => by injection e with e; omega)

theorem ops_get (k : Int) : AL.get (AL.put (AL.put (AL.put (AL.put (AL.put (AL.put (AL.put (AL.put (AL.put (AL.put (AL.put (AL.put (AL.put [] 1 ()) 2 ()) 3 ()) 4 ()) 5 ()) 6 ()) 7 ()) 8 ()) 9 ()) 10 ()) 11 ()) 12 ()) 13 ()) k = if 1 ≤ k ∧ k ≤ 13 then some () else none := by
  have e : (AL.put (AL.put (AL.put (AL.put (AL.put (AL.put (AL.put (AL.put (AL.put (AL.put (AL.put (AL.put (AL.put ([] : List (Int × Unit)) 1 ()) 2 ()) 3 ()) 4 ()) 5 ()) 6 ()) 7 ()) 8 ()) 9 ()) 10 ()) 11 ()) 12 ()) 13 ()) = [(1, ()), (2, ()), (3, ()), (4, ()), (5, ()), (6, ()), (7, ()), (8, ()), (9, ()), (10, ()), (11, ()), (12, ()), (13, ())] := by decide
  rw [e]
  by_cases h : 1 ≤ k ∧ k ≤ 13
  · rw [if_pos h]
    rcases B.op_cases h.1 h.2 with rfl | rfl | rfl | rfl | rfl | rfl | rfl | rfl | rfl | rfl | rfl | rfl | rfl <;> rfl
  · rw [if_neg h]
    refine AL.get_none fun p hp e => h ?_
    simp only [List.mem_cons, List.not_mem_nil, or_false] at hp
    rcases hp with rfl | rfl | rfl | rfl | rfl | rfl | rfl | rfl | rfl | rfl | rfl | rfl | rfl <;> (subst e; decide)

end Go.Proofs.YtcmlmjbpdaecbaaGreat
end
section
namespace Go.Proofs.YtcmlmjbpdaecbaaGreat
open Go.RowKit Go.Maps Go.Shelf
set_option linter.unusedVariables false
set_option linter.unusedSimpArgs false

/-- the store of three cells into a block above which what is read lies -/
theorem elB_store {b : Nat} {w w' : World} {k : Int} {u : Value} {x : Unit} (h : ElB b w k u x) (hs : w.heap.size ≤ w'.heap.size) (hb : ∀ B0, b < B0 → B0 < w.heap.size → w'.heap[B0]? = w.heap[B0]?) : ElB b w' k u x := by
  obtain ⟨f, caps, v1, v2, own, hu, hv, he, ho, hd⟩ := h
  exact ⟨f, caps, v1, v2, own, hu, hv, he, fun B0 hB => ⟨Nat.lt_of_lt_of_le (ho B0 hB).1 hs, (ho B0 hB).2⟩, fun W hW => hd W fun B0 hB => (hW B0 hB).trans (hb B0 (ho B0 hB).2 (ho B0 hB).1)⟩
theorem heap_set3 (w : World) (p B0 : Nat) (u0 u1 u2 : Value) (h : B0 ≠ p) : (((w.setCell ⟨p, 0, none⟩ u0).setCell ⟨p, 1, none⟩ u1).setCell ⟨p, 2, none⟩ u2).heap[B0]? = w.heap[B0]? := by
  rw [Below.heap_setCell _ _ _ _ h, Below.heap_setCell _ _ _ _ h, Below.heap_setCell _ _ _ _ h]
end Go.Proofs.YtcmlmjbpdaecbaaGreat
end
section
namespace Go.Proofs.YtcmlmjbpdaecbaaGreat
open Go.RowKit Go.Maps Go.Shelf
set_option linter.unusedVariables false

theorem ret_we {a a' b b' : Int} (h : a = a') (h' : b = b') : Ending.returned (.tuple #[.int .u32 a, .int .i64 b]) = .returned (.tuple #[.int .u32 a', .int .i64 b']) := by rw [h, h']

end Go.Proofs.YtcmlmjbpdaecbaaGreat
end
section
namespace Go.Proofs.YtcmlmjbpdaecbaaGreat.B

theorem tmod_fix (x m : Int) (hm : 0 < m) : (if x.tmod m < 0 then x.tmod m + m else x.tmod m) = x % m := by
  have h := Int.tmod_eq_emod (a := x) (b := m)
  have h0 := Int.emod_nonneg x (show m ≠ 0 by omega)
  have h1 := Int.emod_lt_of_pos x hm
  have hn : (m.natAbs : Int) = m := by omega
  by_cases hx : 0 ≤ x ∨ m ∣ x
  · rw [if_pos hx] at h
    rw [h, if_neg (by omega)]; omega
  · rw [if_neg hx] at h
    rw [h, if_pos (by omega)]; omega

/-- a step of dividing by 2, rounding down -/
theorem half_neg (x : Int) : -((1 - x) / 2) = x / 2 := by omega
theorem half_step' (x : Int) (k : Nat) : x / 2 ^ k / 2 = x / 2 ^ (k + 1) := by
  rw [Int.pow_succ, ← Int.ediv_ediv_of_nonneg (Int.pow_nonneg (by decide))]

def bitN (x i : Nat) : Nat := x / 2 ^ i % 2
theorem bitN_lt (x i : Nat) : bitN x i < 2 := Nat.mod_lt _ (by decide)
theorem bitN_test (x i : Nat) : bitN x i = if x.testBit i then 1 else 0 := by
  unfold bitN
  rw [Nat.testBit_eq_decide_div_mod_eq]
  have : x / 2 ^ i % 2 = 0 ∨ x / 2 ^ i % 2 = 1 := by omega
  rcases this with h | h <;> simp [h]
theorem mod_succ (x i : Nat) : x % 2 ^ (i + 1) = x % 2 ^ i + bitN x i * 2 ^ i := by
  unfold bitN
  rw [Nat.pow_succ, Nat.mod_mul, Nat.mul_comm (2 ^ i)]
theorem bitN_and (a b i : Nat) : bitN (a &&& b) i = bitN a i * bitN b i := by
  simp only [bitN_test, Nat.testBit_and]
  cases a.testBit i <;> cases b.testBit i <;> rfl
theorem bitN_or (a b i : Nat) : bitN (a ||| b) i = max (bitN a i) (bitN b i) := by
  simp only [bitN_test, Nat.testBit_or]
  cases a.testBit i <;> cases b.testBit i <;> rfl
theorem bitN_xor (a b i : Nat) : bitN (a ^^^ b) i = (bitN a i + bitN b i) % 2 := by
  simp only [bitN_test, Nat.testBit_xor]
  cases a.testBit i <;> cases b.testBit i <;> rfl
/-- the bit as whole numbers reckon it -/
theorem bit_int (x : Int) (i : Nat) (h : 0 ≤ x) : x / 2 ^ i % 2 = (bitN x.toNat i : Int) := by
  unfold bitN
  obtain ⟨X, rfl⟩ := Int.eq_ofNat_of_zero_le h
  simp
theorem mod_eq {x : Nat} {n : Int} (h : (x : Int) < pw n) : x % 2 ^ n.toNat = x := by
  rw [pw_nat] at h
  exact Nat.mod_eq_of_lt (by omega)

/-- doubling modulo m, k times -/
theorem dbl_step (a m : Int) (k : Nat) : 2 * (a * 2 ^ k % m) % m = a * 2 ^ (k + 1) % m := by
  rw [Int.pow_succ, ← Int.mul_assoc, Int.mul_comm 2, Int.mul_emod, Int.emod_emod, ← Int.mul_emod]
end Go.Proofs.YtcmlmjbpdaecbaaGreat.B
end
