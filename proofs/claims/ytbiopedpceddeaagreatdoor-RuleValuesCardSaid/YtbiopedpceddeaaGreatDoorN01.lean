/- Merged: PlainB, Maps, B1, B2, B3, B4, B5, B6, B7, PlainB2. -/
import Derived.Test.YtbiopedpceddeaaGreatDoorN00
import Derived.Maps.Keyed
import Derived.Maps.OwnOps
import Derived.Carry
import Derived.ChangeMaps5
import Derived.Test.YtbiopedpceddeaaGreatDoorProg
import Derived.Laws.BitsAllLaws
import Derived.Laws.EntriesVeiled
import Derived.Shelf.Abstract
import Derived.Deep.RegionWith
import Derived.StillTailTactics
import Derived.BigRegion
set_option linter.unusedVariables false
set_option linter.unusedSimpArgs false
section
namespace Go.Proofs.YtbiopedpceddeaaGreatDoor.B
set_option linter.unusedVariables false
set_option linter.unusedSimpArgs false

/-- 2^n -/
def pw (n : Int) : Int := 2 ^ n.toNat
/-- the signed value of a word -/
def sg (n a : Int) : Int := if pw (n - 1) ≤ a then a - pw n else a
def isWd (n : Int) : Bool := decide (1 ≤ n) && decide (n ≤ 32)
def isW (n a : Int) : Bool := isWd n && decide (a < pw n)

theorem pw_pos (n : Int) : 0 < pw n := Int.pow_pos (by decide)
theorem pw_nat (n : Int) : pw n = ((2 ^ n.toNat : Nat) : Int) := by unfold pw; simp
theorem pw_mono {m n : Int} (h : m ≤ n) : pw m ≤ pw n := by
  rw [pw_nat, pw_nat]
  exact Int.ofNat_le.2 (Nat.pow_le_pow_right (by decide) (by omega))
theorem pw_32 : pw 32 = 4294967296 := by decide
theorem pw_le {n : Int} (h : n ≤ 32) : pw n ≤ 4294967296 := by rw [← pw_32]; exact pw_mono h
theorem pw_le31 {n : Int} (h : n ≤ 31) : pw n ≤ 2147483648 := by
  have := pw_mono h
  have e : pw 31 = 2147483648 := by decide
  omega
theorem pw_succ {n : Int} (h : 1 ≤ n) : pw n = 2 * pw (n - 1) := by
  unfold pw
  have : n.toNat = (n - 1).toNat + 1 := by omega
  rw [this, Int.pow_succ]; omega
theorem pw_ge2 {n : Int} (h : 1 ≤ n) : 2 ≤ pw n := by have := pw_pos (n - 1); rw [pw_succ h]; omega
theorem pw_dvd {m n : Int} (h : m ≤ n) : pw m ∣ pw n := by
  unfold pw
  rw [show n.toNat = m.toNat + (n.toNat - m.toNat) by omega, Int.pow_add]
  exact Int.dvd_mul_right _ _
theorem mod_mod {n : Int} (x : Int) (h : n ≤ 32) : x % 4294967296 % pw n = x % pw n := by
  rw [← pw_32]; exact Int.emod_emod_of_dvd x (pw_dvd h)
theorem isWd_iff {n : Int} : isWd n = true ↔ 1 ≤ n ∧ n ≤ 32 := by unfold isWd; simp
theorem isW_iff {n a : Int} : isW n a = true ↔ 1 ≤ n ∧ n ≤ 32 ∧ a < pw n := by unfold isW; simp [isWd_iff, and_assoc]
theorem sg_lo {n a : Int} (h : 1 ≤ n) (h0 : 0 ≤ a) : -pw (n - 1) ≤ sg n a := by
  have := pw_succ h
  have := pw_pos (n - 1)
  unfold sg; split <;> omega
theorem sg_hi {n a : Int} (h : 1 ≤ n) (h1 : a < pw n) : sg n a < pw (n - 1) := by
  have := pw_succ h
  have := pw_pos (n - 1)
  unfold sg; split <;> omega
theorem sg_mod {n a : Int} : sg n a % pw n = a % pw n := by
  unfold sg; split
  · exact Int.sub_emod_right a (pw n)
  · rfl
theorem sg_zero {n a : Int} (h : 1 ≤ n) (h0 : 0 ≤ a) (h1 : a < pw n) : sg n a = 0 ↔ a = 0 := by
  have := pw_succ h
  have := pw_pos (n - 1)
  unfold sg; split <;> omega

/-- The word that an operation makes, if there is one. -/
def do_ (op n a b : Int) : Option Int :=
  if op = 1 then some ((a + b) % pw n)
  else if op = 2 then some ((a - b) % pw n)
  else if op = 3 then some ((a * b) % pw n)
  else if op = 4 then (if b = 0 then none else some (a / b))
  else if op = 5 then (if b = 0 then none else some (a % b))
  else if op = 6 then (if b = 0 ∨ (sg n a = -pw (n - 1) ∧ sg n b = -1) then none else some ((sg n a).tdiv (sg n b) % pw n))
  else if op = 7 then (if b = 0 ∨ (sg n a = -pw (n - 1) ∧ sg n b = -1) then none else some ((sg n a).tmod (sg n b) % pw n))
  else if op = 8 then some ((a.toNat &&& b.toNat : Nat) : Int)
  else if op = 9 then some ((a.toNat ||| b.toNat : Nat) : Int)
  else if op = 10 then some ((a.toNat ^^^ b.toNat : Nat) : Int)
  else if op = 11 then (if n ≤ b then none else some (a * pw b % pw n))
  else if op = 12 then (if n ≤ b then none else some (a / pw b))
  else (if n ≤ b then none else some (sg n a / pw b % pw n))

/-- What the solver takes where there is none. -/
def els (op n a b : Int) : Int :=
  if op = 4 then pw n - 1
  else if op = 5 then a
  else if op = 6 then (if b ≠ 0 then a else if sg n a < 0 then 1 else pw n - 1)
  else if op = 7 then (if b ≠ 0 then 0 else a)
  else if op = 13 then (if sg n a < 0 then pw n - 1 else 0)
  else 0

def full (op n a b : Int) : Int := (do_ op n a b).getD (els op n a b)
def okOp (op n a b : Int) : Bool := decide (1 ≤ op) && decide (op ≤ 13) && isW n a && isW n b
def total (op n a b : Int) : Int × Int := if okOp op n a b = true then (full op n a b, 0) else (0, 1)

theorem land_lt {n : Int} {a b : Int} (h0 : 0 ≤ a) (h1 : a < pw n) : (a.toNat &&& b.toNat : Nat) < pw n := by
  rw [pw_nat] at *
  exact Int.ofNat_lt.2 (Nat.lt_of_le_of_lt Nat.and_le_left (by omega))
theorem lor_lt {n : Int} {a b : Int} (h1 : a < pw n) (h2 : b < pw n) : (a.toNat ||| b.toNat : Nat) < pw n := by
  rw [pw_nat] at *
  exact Int.ofNat_lt.2 (Nat.or_lt_two_pow (by have := Nat.two_pow_pos n.toNat; omega) (by have := Nat.two_pow_pos n.toNat; omega))
theorem lxor_lt {n : Int} {a b : Int} (h1 : a < pw n) (h2 : b < pw n) : (a.toNat ^^^ b.toNat : Nat) < pw n := by
  rw [pw_nat] at *
  exact Int.ofNat_lt.2 (Nat.xor_lt_two_pow (by have := Nat.two_pow_pos n.toNat; omega) (by have := Nat.two_pow_pos n.toNat; omega))
theorem mod_lo {x n : Int} : 0 ≤ x % pw n := Int.emod_nonneg _ (by have := pw_pos n; omega)
theorem mod_hi {x n : Int} : x % pw n < pw n := Int.emod_lt_of_pos _ (pw_pos n)

section
variable (n a b : Int)
theorem do_1 : do_ 1 n a b = some ((a + b) % pw n) := rfl
theorem do_2 : do_ 2 n a b = some ((a - b) % pw n) := rfl
theorem do_3 : do_ 3 n a b = some ((a * b) % pw n) := rfl
theorem do_4 : do_ 4 n a b = (if b = 0 then none else some (a / b)) := rfl
theorem do_5 : do_ 5 n a b = (if b = 0 then none else some (a % b)) := rfl
theorem do_6 : do_ 6 n a b = (if b = 0 ∨ (sg n a = -pw (n - 1) ∧ sg n b = -1) then none else some ((sg n a).tdiv (sg n b) % pw n)) := rfl
theorem do_7 : do_ 7 n a b = (if b = 0 ∨ (sg n a = -pw (n - 1) ∧ sg n b = -1) then none else some ((sg n a).tmod (sg n b) % pw n)) := rfl
theorem do_8 : do_ 8 n a b = some ((a.toNat &&& b.toNat : Nat) : Int) := rfl
theorem do_9 : do_ 9 n a b = some ((a.toNat ||| b.toNat : Nat) : Int) := rfl
theorem do_10 : do_ 10 n a b = some ((a.toNat ^^^ b.toNat : Nat) : Int) := rfl
theorem do_11 : do_ 11 n a b = (if n ≤ b then none else some (a * pw b % pw n)) := rfl
theorem do_12 : do_ 12 n a b = (if n ≤ b then none else some (a / pw b)) := rfl
theorem do_13 : do_ 13 n a b = (if n ≤ b then none else some (sg n a / pw b % pw n)) := rfl
end
theorem op_cases {op : Int} (h : 1 ≤ op) (h' : op ≤ 13) : op = 1 ∨ op = 2 ∨ op = 3 ∨ op = 4 ∨ op = 5 ∨ op = 6 ∨ op = 7 ∨ op = 8 ∨ op = 9 ∨ op = 10 ∨ op = 11 ∨ op = 12 ∨ op = 13 := by omega

/-- What an operation makes of words is a word. -/
theorem full_word {op n a b : Int} (ho : 1 ≤ op) (ho' : op ≤ 13) (hn : 1 ≤ n) (ha0 : 0 ≤ a) (ha : a < pw n) (hb0 : 0 ≤ b) (hb : b < pw n) : 0 ≤ full op n a b ∧ full op n a b < pw n := by
  have h1 := pw_ge2 hn
  have hand := land_lt (n := n) (b := b) ha0 ha
  have hor := lor_lt (n := n) ha hb
  have hxor := lxor_lt (n := n) ha hb
  have hq : 0 ≤ a / b ∧ a / b ≤ a := ⟨Int.ediv_nonneg ha0 hb0, Int.ediv_le_self b ha0⟩
  have hs : 0 ≤ a / pw b ∧ a / pw b ≤ a := ⟨Int.ediv_nonneg ha0 (by have := pw_pos b; omega), Int.ediv_le_self _ ha0⟩
  have hels : 0 ≤ els op n a b ∧ els op n a b < pw n := by
    unfold els
    repeat' split
    all_goals omega
  have key : ∀ r, do_ op n a b = r → 0 ≤ r.getD (els op n a b) ∧ r.getD (els op n a b) < pw n := by
    intro r hr
    rcases op_cases ho ho' with rfl | rfl | rfl | rfl | rfl | rfl | rfl | rfl | rfl | rfl | rfl | rfl | rfl
    · rw [do_1] at hr; subst hr; exact ⟨mod_lo, mod_hi⟩
    · rw [do_2] at hr; subst hr; exact ⟨mod_lo, mod_hi⟩
    · rw [do_3] at hr; subst hr; exact ⟨mod_lo, mod_hi⟩
    · rw [do_4] at hr; split at hr <;> subst hr
      · exact hels
      · simp only [Option.getD_some]; omega
    · rw [do_5] at hr; split at hr <;> subst hr
      · exact hels
      · simp only [Option.getD_some]
        have := Int.emod_lt_of_pos a (show 0 < b by omega)
        have := Int.emod_nonneg a (show b ≠ 0 by omega)
        omega
    · rw [do_6] at hr; split at hr <;> subst hr
      · exact hels
      · exact ⟨mod_lo, mod_hi⟩
    · rw [do_7] at hr; split at hr <;> subst hr
      · exact hels
      · exact ⟨mod_lo, mod_hi⟩
    · rw [do_8] at hr; subst hr; simp only [Option.getD_some]; omega
    · rw [do_9] at hr; subst hr; simp only [Option.getD_some]; omega
    · rw [do_10] at hr; subst hr; simp only [Option.getD_some]; omega
    · rw [do_11] at hr; split at hr <;> subst hr
      · exact hels
      · exact ⟨mod_lo, mod_hi⟩
    · rw [do_12] at hr; split at hr <;> subst hr
      · exact hels
      · simp only [Option.getD_some]; omega
    · rw [do_13] at hr; split at hr <;> subst hr
      · exact hels
      · exact ⟨mod_lo, mod_hi⟩
  exact key _ rfl

theorem total_word {op n a b : Int} (ha0 : 0 ≤ a) (hb0 : 0 ≤ b) : 0 ≤ (total op n a b).1 ∧ (total op n a b).1 < 4294967296 := by
  unfold total
  split
  · rename_i h
    unfold okOp at h
    simp only [Bool.and_eq_true, isW_iff, decide_eq_true_eq] at h
    obtain ⟨⟨⟨ho, ho'⟩, h1, h2, h3⟩, _, _, h4⟩ := h
    have := full_word ho ho' h1 ha0 h3 hb0 h4
    have := pw_le h2
    show 0 ≤ full op n a b ∧ full op n a b < 4294967296
    omega
  · simp

end Go.Proofs.YtbiopedpceddeaaGreatDoor.B
end
section
namespace Go.Proofs.YtbiopedpceddeaaGreatDoor
open Go.RowKit Go.MapKept Go.Maps

namespace AL
variable {κ α : Type} [DecidableEq κ]
def get : List (κ × α) → κ → Option α
  | [], _ => none
  | p :: l, k => if p.1 = k then some p.2 else get l k
def put : List (κ × α) → κ → α → List (κ × α)
  | [], k, a => [(k, a)]
  | p :: l, k, a => if p.1 = k then (k, a) :: l else p :: put l k a
theorem get_none {l : List (κ × α)} {k : κ} (h : ∀ p ∈ l, p.1 ≠ k) : get l k = none := by
  induction l with
  | nil => rfl
  | cons p l ih => rw [get, if_neg (h p (by simp)), ih (fun q hq => h q (by simp [hq]))]
theorem get_some {l : List (κ × α)} {k : κ} {a : α} {j : Nat} (hd : (l.map Prod.fst).Nodup) (h : l[j]? = some (k, a)) : get l k = some a := by
  induction l generalizing j with
  | nil => simp at h
  | cons p l ih =>
    rw [List.map_cons, List.nodup_cons] at hd
    cases j with
    | zero => simp at h; subst h; simp [get]
    | succ j =>
      simp at h
      have hm : k ∈ l.map Prod.fst := List.mem_map.2 ⟨(k, a), List.mem_of_getElem? h, rfl⟩
      rw [get, if_neg (fun e => hd.1 (by rw [e]; exact hm))]
      exact ih hd.2 h
theorem put_none {l : List (κ × α)} {k : κ} (h : ∀ p ∈ l, p.1 ≠ k) (a : α) : put l k a = l ++ [(k, a)] := by
  induction l with
  | nil => rfl
  | cons p l ih => rw [put, if_neg (h p (by simp)), ih (fun q hq => h q (by simp [hq]))]; rfl
theorem put_some {l : List (κ × α)} {k : κ} {a0 : α} {j : Nat} (hd : (l.map Prod.fst).Nodup) (h : l[j]? = some (k, a0)) (a : α) : put l k a = l.set j (k, a) := by
  induction l generalizing j with
  | nil => simp at h
  | cons p l ih =>
    rw [List.map_cons, List.nodup_cons] at hd
    cases j with
    | zero => simp at h; subst h; simp [put]
    | succ j =>
      simp at h
      have hm : k ∈ l.map Prod.fst := List.mem_map.2 ⟨(k, a0), List.mem_of_getElem? h, rfl⟩
      rw [put, if_neg (fun e => hd.1 (by rw [e]; exact hm)), ih hd.2 h]
      rfl
theorem get_put_same (l : List (κ × α)) (k : κ) (a : α) : get (put l k a) k = some a := by
  induction l with
  | nil => simp [put, get]
  | cons p l ih => unfold put; split <;> simp_all [get]
theorem get_put_other (l : List (κ × α)) {k k' : κ} (a : α) (h : k' ≠ k) : get (put l k a) k' = get l k' := by
  induction l with
  | nil => simp [put, get, Ne.symm h]
  | cons p l ih =>
    unfold put
    split
    · rename_i e; simp [get, e, Ne.symm h]
    · simp only [get, ih]
theorem mem_put {l : List (κ × α)} {k : κ} {a : α} {p : κ × α} (h : p ∈ put l k a) : p ∈ l ∨ p = (k, a) := by
  induction l with
  | nil => simpa [put] using h
  | cons q l ih =>
    unfold put at h
    split at h
    · rcases List.mem_cons.1 h with h | h
      · exact .inr h
      · exact .inl (by simp [h])
    · rcases List.mem_cons.1 h with h | h
      · exact .inl (by simp [h])
      · rcases ih h with h | h
        · exact .inl (by simp [h])
        · exact .inr h
theorem length_put (l : List (κ × α)) (k : κ) (a : α) : (put l k a).length = if get l k = none then l.length + 1 else l.length := by
  induction l with
  | nil => simp [put, get]
  | cons p l ih =>
    unfold put get
    split
    · simp
    · simp only [List.length_cons, ih]; split <;> simp_all
end AL

def MapEnt {κ α : Type} (P : Program) (kt : TypeId) (ek : κ → Value) (R : World → κ → Value → α → Prop) (w : World) (es : Array MapEntry) (l : List (κ × α)) : Prop :=
  ∀ (i : Nat) (k : κ) (a : α), l[i]? = some (k, a) → ∃ e : MapEntry, es.toList[i]? = some e ∧ e.key = ek k ∧ R w k e.val a ∧ ∃ kl, keyOf P kt (ek k) = some kl

/-- Block b is a map that holds the association list l, in the order of its making: keys by ek, elements read by R. -/
def MapAt {κ α : Type} (P : Program) (kt : TypeId) (ek : κ → Value) (R : World → κ → Value → α → Prop) (w : World) (b : Nat) (l : List (κ × α)) : Prop :=
  ∃ (es : Array MapEntry) (clock : Nat), w.heap[b]? = some (.map es clock) ∧ Stamped es clock ∧ es.toList.length = l.length ∧
    MapEnt P kt ek R w es l

section
variable {κ α : Type} {P : Program} {kt et t : TypeId} {ek : κ → Value} {R : World → κ → Value → α → Prop} {w w' : World} {b : Nat} {l : List (κ × α)}

theorem MapAt.lt (h : MapAt P kt ek R w b l) : b < w.heap.size := by
  obtain ⟨es, clock, hb, _⟩ := h
  exact (Array.getElem?_eq_some_iff.1 hb).1

theorem MapAt.made (w : World) : MapAt P kt ek R (w.alloc (.map #[] 0)) w.heap.size [] :=
  ⟨#[], 0, heap_alloc_new w _, stamped_empty 0, by simp, by intro i k a h; simp at h⟩

/-- The map stays while its block stays, and its elements go on reading as they did. -/
theorem MapAt.keep {R' : World → κ → Value → α → Prop} (h : MapAt P kt ek R w b l) (hb : w'.heap[b]? = w.heap[b]?) (hR : ∀ k u a, R w k u a → R' w' k u a) : MapAt P kt ek R' w' b l := by
  obtain ⟨es, clock, h1, h2, h3, h4⟩ := h
  refine ⟨es, clock, hb.trans h1, h2, h3, fun i k a hi => ?_⟩
  obtain ⟨e, e1, e2, e3, e4⟩ := h4 i k a hi
  exact ⟨e, e1, e2, hR _ _ _ e3, e4⟩

theorem mapAt_entry {es : Array MapEntry} (hl : es.toList.length = l.length) {j : Nat} {e : MapEntry} (he : es.toList[j]? = some e) : ∃ k a, l[j]? = some (k, a) := by
  have hj : j < l.length := by rw [← hl]; exact (List.getElem?_eq_some_iff.1 he).1
  exact ⟨l[j].1, l[j].2, List.getElem?_eq_getElem hj⟩

theorem mapAt_nodup {es : Array MapEntry} {clock : Nat} (hs : Stamped es clock) (hl : es.toList.length = l.length)
    (h4 : MapEnt P kt ek R w es l) : (l.map Prod.fst).Nodup := by
  have hp := ((stamped_iff es clock).1 hs).2.2
  rw [List.Nodup, List.pairwise_map, List.pairwise_iff_getElem]
  intro i j hi hj hij e
  rw [List.pairwise_iff_getElem] at hp
  obtain ⟨ei, h1, h2, _⟩ := h4 i l[i].1 l[i].2 (List.getElem?_eq_getElem hi)
  obtain ⟨ej, h3, h5, _⟩ := h4 j l[j].1 l[j].2 (List.getElem?_eq_getElem hj)
  have := hp i j (by omega) (by omega) hij
  rw [List.getElem?_eq_getElem (by omega)] at h1 h3
  rw [Option.some.inj h1, Option.some.inj h3, h2, h5, e] at this
  exact this rfl

theorem MapAt.find (h : MapAt P kt ek R w b l) (K : Keyed P kt) (hinj : ∀ a b, ek a = ek b → a = b) {k : κ} {kl : Lit} (hkey : keyOf P kt (ek k) = some kl) :
    ∃ (es : Array MapEntry) (clock : Nat), w.heap[b]? = some (.map es clock) ∧ Stamped es clock ∧ es.toList.length = l.length ∧ (l.map Prod.fst).Nodup ∧
      MapEnt P kt ek R w es l ∧
      (((Instr.findKey kt (ek k) es.toList).run P w = .ok none w ∧ (∀ e ∈ es.toList, e.key ≠ ek k) ∧ ∀ p ∈ l, p.1 ≠ k) ∨
       ∃ j e a, (Instr.findKey kt (ek k) es.toList).run P w = .ok (some (j, e.val)) w ∧ es.toList[j]? = some e ∧ e.key = ek k ∧ l[j]? = some (k, a) ∧ R w k e.val a) := by
  obtain ⟨es, clock, hb, hs, hl, h4⟩ := h
  have hd := mapAt_nodup hs hl h4
  have hkeys : ∀ e ∈ es.toList, ∃ l, keyOf P kt e.key = some l := by
    intro e he
    obtain ⟨j, hj, rfl⟩ := List.mem_iff_getElem.1 he
    obtain ⟨k', a, hka⟩ := mapAt_entry hl (List.getElem?_eq_getElem hj)
    obtain ⟨e', h1, h2, _, kl', h5⟩ := h4 j k' a hka
    rw [List.getElem?_eq_getElem hj] at h1
    exact ⟨kl', by rw [Option.some.inj h1, h2]; exact h5⟩
  refine ⟨es, clock, hb, hs, hl, hd, h4, ?_⟩
  rcases K.find w hkey es.toList hkeys with ⟨h1, h2⟩ | ⟨j, e, h1, h2, h3⟩
  · refine .inl ⟨h1, h2, fun p hp e => ?_⟩
    obtain ⟨i, hi, rfl⟩ := List.mem_iff_getElem.1 hp
    obtain ⟨e', g1, g2, _⟩ := h4 i l[i].1 l[i].2 (List.getElem?_eq_getElem hi)
    exact h2 e' (List.mem_of_getElem? g1) (by rw [g2, e])
  · obtain ⟨k', a, hka⟩ := mapAt_entry hl h2
    obtain ⟨e', g1, g2, g3, _⟩ := h4 j k' a hka
    rw [h2] at g1
    obtain rfl := Option.some.inj g1
    obtain rfl : k' = k := hinj _ _ (by rw [← g2, h3])
    exact .inr ⟨j, e, a, h1, h2, h3, hka, g3⟩

variable [DecidableEq κ]

/-- 'm[k]'; the element type's zero value reads as a0. -/
theorem MapAt.lookup (h : MapAt P kt ek R w b l) (K : Keyed P kt) (hinj : ∀ a b, ek a = ek b → a = b) (ht : P.underlying t = some (.map kt et)) {z : Value} (hz : (zeroValue et).run P w = .ok z w) {k : κ} {kl : Lit} (hkey : keyOf P kt (ek k) = some kl) :
    ∃ u, (Instr.lookup t (.map (some b)) (ek k) false).run P w = .ok u w ∧ (Instr.lookup t (.map (some b)) (ek k) true).run P w = .ok (.tuple #[u, .bool (AL.get l k).isSome]) w ∧
      ((AL.get l k = none ∧ u = z) ∨ ∃ a, AL.get l k = some a ∧ R w k u a) := by
  obtain ⟨es, clock, hb, hs, hl, hd, h4, hf⟩ := h.find K hinj hkey
  rcases hf with ⟨h1, h2, h3⟩ | ⟨j, e, a, h1, h2, h3, hka, hR⟩
  · refine ⟨z, ?_, ?_, .inl ⟨AL.get_none h3, rfl⟩⟩
    · simp [Instr.lookup, run_underlying ht, MapKept.run_getObj_map hb, K.check w _ hkey, h1, hz, Result.andThen]
    · simp [Instr.lookup, run_underlying ht, MapKept.run_getObj_map hb, K.check w _ hkey, h1, hz, Result.andThen, AL.get_none h3]
  · refine ⟨e.val, ?_, ?_, .inr ⟨a, AL.get_some hd hka, hR⟩⟩
    · simp [Instr.lookup, run_underlying ht, MapKept.run_getObj_map hb, K.check w _ hkey, h1, Result.andThen]
    · simp [Instr.lookup, run_underlying ht, MapKept.run_getObj_map hb, K.check w _ hkey, h1, Result.andThen, AL.get_some hd hka]

/-- 'm[k] = v'. -/
theorem MapAt.update (h : MapAt P kt ek R w b l) (K : Keyed P kt) (hinj : ∀ a b, ek a = ek b → a = b) (ht : P.underlying t = some (.map kt et)) {k : κ} {kl : Lit} (hkey : keyOf P kt (ek k) = some kl) (val : Value) :
    ∃ w', (Instr.mapUpdate t (.map (some b)) (ek k) val).run P w = .ok () w' ∧ w.grownBy w' (some b) ∧ w'.heap.size = w.heap.size ∧
      ∀ (R' : World → κ → Value → α → Prop) (a : α), (∀ k' u a', k' ≠ k → R w k' u a' → R' w' k' u a') → R' w' k val a → MapAt P kt ek R' w' b (AL.put l k a) := by
  obtain ⟨es, clock, hb, hs, hl, hd, h4, hf⟩ := h.find K hinj hkey
  rcases hf with ⟨h1, h2, h3⟩ | ⟨j, e0, a0, h1, h2, h3, hka, hR⟩
  · refine ⟨ChangeMaps.setBlock w b (.map (es.push ⟨ek k, val, clock⟩) (clock + 1)), ?_, ⟨rfl, rfl, rfl, by simp [ChangeMaps.setBlock], fun i _ hi => ChangeMaps.heap_setBlock_other hb _ (fun e => hi (by rw [e]))⟩, by simp [ChangeMaps.setBlock], ?_⟩
    · simp [Instr.mapUpdate, run_underlying ht, MapKept.run_getObj_map hb, K.check w false hkey, h1, MapKept.run_setObj_map _ hb, Result.andThen, ChangeMaps.setBlock]
    · intro R' a hR' hv
      refine ⟨_, _, ChangeMaps.heap_setBlock_same hb _, stamped_push hs h2, ?_, ?_⟩
      · rw [AL.put_none h3]; simp; simpa using hl
      · rw [AL.put_none h3]
        intro i k' a' hi
        by_cases hil : i < l.length
        · rw [List.getElem?_append_left hil] at hi
          obtain ⟨e, g1, g2, g3, g4⟩ := h4 i k' a' hi
          refine ⟨e, ?_, g2, hR' _ _ _ (h3 _ (List.mem_of_getElem? hi)) g3, g4⟩
          rw [Array.toList_push, List.getElem?_append_left (by omega)]
          exact g1
        · have hi2 : i < (l ++ [(k, a)]).length := (List.getElem?_eq_some_iff.1 hi).1
          simp at hi2
          obtain rfl : i = l.length := by omega
          simp at hi
          obtain ⟨rfl, rfl⟩ := hi
          refine ⟨⟨ek k, val, clock⟩, ?_, rfl, hv, kl, hkey⟩
          rw [Array.toList_push, List.getElem?_append_right (by omega), hl]
          simp
  · have hj : es[j]? = some e0 := by simpa using h2
    have hjl : j < es.toList.length := (List.getElem?_eq_some_iff.1 h2).1
    have hkeyf : ∀ e', es[j]? = some e' → ({ e' with key := ek k, val := val } : MapEntry).key = e'.key := fun e' he' => by rw [hj] at he'; cases he'; exact h3.symm
    have hlist : (es.modify j (fun e' => { e' with key := ek k, val := val })).toList = es.toList.set j { e0 with key := ek k, val := val } := by rw [Array.toList_modify, ChangeMaps.modify_eq_set _ _ _ _ h2]
    refine ⟨ChangeMaps.setBlock w b (.map (es.modify j (fun e' => { e' with key := ek k, val := val })) clock), ?_, ⟨rfl, rfl, rfl, by simp [ChangeMaps.setBlock], fun i _ hi => ChangeMaps.heap_setBlock_other hb _ (fun e => hi (by rw [e]))⟩, by simp [ChangeMaps.setBlock], ?_⟩
    · simp [Instr.mapUpdate, run_underlying ht, MapKept.run_getObj_map hb, K.check w false hkey, h1, hj, h3, K.stays w hkey, MapKept.run_setObj_map _ hb, Result.andThen, ChangeMaps.setBlock]
    · intro R' a hR' hv
      refine ⟨es.modify j (fun e' => { e' with key := ek k, val := val }), clock, ChangeMaps.heap_setBlock_same hb _, stamped_modify hs _ _ (fun _ _ => rfl) (fun e' _ he' => hkeyf e' he'), ?_, ?_⟩
      · rw [AL.put_some hd hka, hlist]; simp; simpa using hl
      · rw [AL.put_some hd hka]
        intro i k' a' hi
        rw [List.getElem?_set] at hi
        split at hi
        · rename_i hij
          subst hij
          split at hi
          · simp at hi
            obtain ⟨rfl, rfl⟩ := hi
            refine ⟨{ e0 with key := ek k, val := val }, ?_, rfl, hv, kl, hkey⟩
            rw [hlist, List.getElem?_set_self hjl]
          · cases hi
        · rename_i hij
          obtain ⟨e, g1, g2, g3, g4⟩ := h4 i k' a' hi
          refine ⟨e, ?_, g2, hR' _ _ _ ?_ g3, g4⟩
          · rw [hlist, List.getElem?_set_ne hij]; exact g1
          · rintro rfl
            refine hij ?_
            have hi' : i < (l.map Prod.fst).length := by rw [List.length_map]; exact (List.getElem?_eq_some_iff.1 hi).1
            have hj' : j < (l.map Prod.fst).length := by rw [List.length_map]; omega
            have a1 := (List.getElem?_eq_some_iff.1 hi).2
            have a2 := (List.getElem?_eq_some_iff.1 hka).2
            have hp := List.pairwise_iff_getElem.1 hd
            rcases Nat.lt_trichotomy j i with hlt | rfl | hlt
            · exact absurd (by simp only [List.getElem_map, a1, a2]) (hp j i hj' hi' hlt)
            · rfl
            · exact absurd (by simp only [List.getElem_map, a1, a2]) (hp i j hi' hj' hlt)
end

theorem ek_int_inj (q : IntKind) : ∀ a b : Int, Value.int q a = Value.int q b → a = b := fun a b h => by injection h
end Go.Proofs.YtbiopedpceddeaaGreatDoor
end
section
namespace Go.Proofs.YtbiopedpceddeaaGreatDoor
open Go.RowKit

theorem ret_bool {a b : Bool} (h : a = b) : Ending.returned (.bool a) = .returned (.bool b) := by rw [h]
theorem ret_int {k : IntKind} {a b : Int} (h : a = b) : Ending.returned (.int k a) = .returned (.int k b) := by rw [h]

namespace B
theorem pw_sub {n : Int} (h : 1 ≤ n) : (2 : Int) ^ (n.toNat - 1) = pw (n - 1) := by unfold pw; rw [show (n - 1).toNat = n.toNat - 1 by omega]
theorem wrap64_id {x : Int} (h : -9223372036854775808 ≤ x) (h' : x ≤ 9223372036854775807) : wrap64 x = x := IntWalk.wrap64_in x ⟨h, h'⟩
theorem and_mask {n x : Int} (hn : n ≤ 32) (h0 : 0 ≤ x) (h1 : x < 4294967296) : bits .and .u32 x (pw n - 1) = x % pw n := by
  have hp := pw_pos n
  have hl := pw_le hn
  rw [u32_and x (pw n - 1) h0 h1 (by omega) (by omega)]
  have e : (pw n - 1).toNat = 2 ^ n.toNat - 1 := by have := pw_nat n; omega
  rw [e, Nat.and_two_pow_sub_one_eq_mod]
  have h3 : ((x.toNat % 2 ^ n.toNat : Nat) : Int) = (x.toNat : Int) % ((2 ^ n.toNat : Nat) : Int) := Int.natCast_emod _ _
  rw [h3, ← pw_nat, Int.toNat_of_nonneg h0]
end B

theorem isWidth_yes (n : Int) (w : World) (h0 : 1 ≤ n) (h1 : n ≤ 32) : Calls Tryz.prog 104 #[.int .i64 n] w fun e w' => e = .returned (.bool true) ∧ w = w' := by
  go_enter Tryz.func104, Tryz.ntmps104
  go_wp2
  go_ret
  exact ⟨rfl, rfl⟩
theorem isWidth_no (n : Int) (w : World) (h : n < 1 ∨ 32 < n) : Calls Tryz.prog 104 #[.int .i64 n] w fun e w' => e = .returned (.bool false) ∧ w = w' := by
  rcases h with h | h
  · go_enter Tryz.func104, Tryz.ntmps104
    go_wp2
    go_ret
    exact ⟨rfl, rfl⟩
  · have h1 : 1 ≤ n := by omega
    have hd : decide (n ≤ 32) = false := by simp; omega
    go_enter Tryz.func104, Tryz.ntmps104
    go_wp2
    go_ret
    exact ⟨rfl, rfl⟩
theorem isWidth_any (n : Int) (w : World) : Calls Tryz.prog 104 #[.int .i64 n] w fun e w' => e = .returned (.bool (B.isWd n)) ∧ w = w' := by
  cases h : B.isWd n
  · exact isWidth_no n w (by have : ¬ (1 ≤ n ∧ n ≤ 32) := fun hc => by rw [B.isWd_iff.2 hc] at h; cases h
                             omega)
  · have := B.isWd_iff.1 h
    exact isWidth_yes n w this.1 this.2

theorem mask_any (n : Int) (w : World) (h0 : 0 ≤ n) (h1 : n ≤ 32) : Calls Tryz.prog 105 #[.int .i64 n] w fun e w' => e = .returned (.int .u32 (B.pw n - 1)) ∧ w = w' := by
  go_enter Tryz.func105, Tryz.ntmps105
  go_wp2
  go_ret
  refine ⟨ret_int ?_, rfl⟩
  have e : (2 : Int) ^ n.toNat = B.pw n := rfl
  have hp := B.pw_pos n
  have hl := B.pw_le h1
  rw [e, IntKind.wrap_u64, IntKind.wrap_u64]
  omega

theorem Mask_any (n : Int) (w : World) : Calls Tryz.prog 100 #[.int .i64 n] w fun e w' => e = .returned (.tuple #[.int .u32 (if B.isWd n then B.pw n - 1 else 0), .int .i64 (if B.isWd n then 0 else 1)]) ∧ w = w' := by
  have H1 := Lib.hid (isWidth_any n w)
  cases h : B.isWd n
  · rw [h] at H1
    have Hh := Lib.hid h; clear h
    go_enter Tryz.func100, Tryz.ntmps100
    go_wp2_with fail
    refine H1.out.mono ?_
    rintro e w' ⟨rfl, rfl⟩
    go_wp2
    go_ret2
    exact ⟨rfl, rfl⟩
  · have hn := B.isWd_iff.1 h
    rw [h] at H1
    have H2 := Lib.hid (mask_any n w (by omega) hn.2)
    have Hh := Lib.hid h; clear h hn
    go_enter Tryz.func100, Tryz.ntmps100
    go_wp2_with fail
    refine H1.out.mono ?_
    rintro e w' ⟨rfl, rfl⟩
    go_wp2_with fail
    refine H2.out.mono ?_
    rintro e w' ⟨rfl, rfl⟩
    go_wp2
    go_ret2
    exact ⟨rfl, rfl⟩

theorem signed_any (n x : Int) (w : World) (h0 : 1 ≤ n) (h1 : n ≤ 32) (h2 : 0 ≤ x) (h3 : x < B.pw n) : Calls Tryz.prog 103 #[.int .i64 n, .int .u32 x] w fun e w' => e = .returned (.int .i64 (B.sg n x)) ∧ w = w' := by
  have hp := B.pw_succ h0
  have hq := B.pw_pos (n - 1)
  have hl := B.pw_le h1
  have e1 := B.pw_sub h0
  have e2 : (2 : Int) ^ n.toNat = B.pw n := rfl
  by_cases hc : B.pw (n - 1) ≤ x
  · have ht : (x / 2 ^ (n.toNat - 1) == 1) = true := by
      rw [e1]
      have : x / B.pw (n - 1) = 1 := by
        have h4 : x = B.pw (n - 1) * 1 + (x - B.pw (n - 1)) := by omega
        rw [h4, Int.mul_comm, Int.mul_add_ediv_right _ _ (by omega), Int.ediv_eq_zero_of_lt (by omega) (by omega)]; rfl
      rw [this]; rfl
    have h4 : x < 4294967296 := by omega
    have Hc := Lib.hid (⟨hp, hq, hl, e2, hc, h3⟩ : _ ∧ _ ∧ _ ∧ _ ∧ _ ∧ _); clear hp hq hl e1 e2 hc h3
    go_enter Tryz.func103, Tryz.ntmps103
    go_wp2
    go_ret
    refine ⟨ret_int ?_, rfl⟩
    obtain ⟨hp, hq, hl, e2, hc, h3⟩ := Hc.out
    rw [e2, B.wrap64_id (x := B.pw n) (by omega) (by omega), B.wrap64_id (by omega) (by omega), B.sg, if_pos hc]
  · have ht : (x / 2 ^ (n.toNat - 1) == 1) = false := by
      rw [e1, Int.ediv_eq_zero_of_lt h2 (by omega)]; rfl
    have h4 : x < 4294967296 := by omega
    have Hc := Lib.hid (Int.not_le.2 (Int.not_le.1 hc)); clear hp hq hl e1 e2 hc h3
    go_enter Tryz.func103, Tryz.ntmps103
    go_wp2
    go_ret
    exact ⟨ret_int (by rw [B.sg, if_neg (by have := Hc.out; omega)]), rfl⟩

theorem sign_any (n x : Int) (w : World) (h0 : 1 ≤ n) (h1 : n ≤ 32) (h2 : 0 ≤ x) (h3 : x < B.pw n) : Calls Tryz.prog 222 #[.int .i64 n, .int .u32 x] w fun e w' => e = .returned (.int .u32 (if B.sg n x < 0 then B.pw n - 1 else 0)) ∧ w = w' := by
  have H1 := Lib.hid (signed_any n x w h0 h1 h2 h3)
  have H2 := Lib.hid (mask_any n w (by omega) h1)
  clear h3
  by_cases hc : B.sg n x < 0
  · go_enter Tryz.func222, Tryz.ntmps222
    go_wp2_with fail
    refine H1.out.mono ?_
    rintro e w' ⟨rfl, rfl⟩
    go_wp2_with fail
    refine H2.out.mono ?_
    rintro e w' ⟨rfl, rfl⟩
    go_wp2
    go_ret
    exact ⟨rfl, rfl⟩
  · go_enter Tryz.func222, Tryz.ntmps222
    go_wp2_with fail
    refine H1.out.mono ?_
    rintro e w' ⟨rfl, rfl⟩
    go_wp2
    go_ret
    exact ⟨rfl, rfl⟩
end Go.Proofs.YtbiopedpceddeaaGreatDoor
end
section
namespace Go.Proofs.YtbiopedpceddeaaGreatDoor
open Go.RowKit
set_option linter.unusedVariables false

namespace B
def has (op n a b : Int) : Bool := (do_ op n a b).isSome
structure Wds (n a b : Int) : Prop where
  n0 : 1 ≤ n
  n1 : n ≤ 32
  a0 : 0 ≤ a
  a1 : a < pw n
  b0 : 0 ≤ b
  b1 : b < pw n
/-- a quotient is within -2^(n-1) .. 2^(n-1) - 1 -/
theorem tdiv_bound (x y : Int) : -x.natAbs ≤ x.tdiv y ∧ x.tdiv y ≤ x.natAbs := by
  have h : (x.tdiv y).natAbs ≤ x.natAbs := by rw [Int.natAbs_tdiv]; exact Nat.div_le_self _ _
  omega
theorem tmod_bound (x y : Int) : -x.natAbs ≤ x.tmod y ∧ x.tmod y ≤ x.natAbs := by
  have h : (x.tmod y).natAbs ≤ x.natAbs := by rw [Int.natAbs_tmod]; exact Nat.mod_le _ _
  omega
theorem mask_mod {n : Int} (x : Int) (hn : n ≤ 32) : bits .and .u32 (x % 4294967296) (pw n - 1) = x % pw n := by
  rw [and_mask hn (Int.emod_nonneg _ (by decide)) (Int.emod_lt_of_pos _ (by decide)), mod_mod _ hn]
end B

theorem ret_iib {a a' b b' : Int} {c : Bool} (h : a = a') (h' : b = b') : Ending.returned (.tuple #[.int .i64 a, .int .i64 b, .bool c]) = .returned (.tuple #[.int .i64 a', .int .i64 b', .bool c]) := by rw [h, h']
theorem ret_wb {a a' : Int} {c c' : Bool} (h : a = a') (h' : c = c') : Ending.returned (.tuple #[.int .u32 a, .bool c]) = .returned (.tuple #[.int .u32 a', .bool c']) := by rw [h, h']

theorem quotient_none (n a b : Int) (w : World) (h : B.Wds n a b) (hq : b = 0 ∨ (B.sg n a = -B.pw (n - 1) ∧ B.sg n b = -1)) :
    Calls Tryz.prog 210 #[.int .i64 n, .int .u32 a, .int .u32 b] w fun e w' => e = .returned (.tuple #[.int .i64 0, .int .i64 0, .bool false]) ∧ w = w' := by
  obtain ⟨n0, n1, a0, a1, b0, b1⟩ := h
  have H1 := Lib.hid (signed_any n a w n0 n1 a0 a1)
  have H2 := Lib.hid (signed_any n b w n0 n1 b0 b1)
  have hz := B.sg_zero n0 b0 b1
  have h3 := B.pw_le31 (show n - 1 ≤ 31 by omega)
  have h4 := B.pw_pos (n - 1)
  have e2 : (2 : Int) ^ (n.toNat - 1) = B.pw (n - 1) := B.pw_sub n0
  by_cases hb : b = 0
  · have hs : (B.sg n b == 0) = true := by rw [hz.2 hb]; rfl
    clear hq hz h3 h4 e2 hb a1 b1
    go_enter Tryz.func210, Tryz.ntmps210
    go_wp2_with fail
    refine H1.out.mono ?_
    rintro e w' ⟨rfl, rfl⟩
    go_wp2_with fail
    refine H2.out.mono ?_
    rintro e w' ⟨rfl, rfl⟩
    go_wp2
    go_ret3
    exact ⟨rfl, rfl⟩
  · obtain ⟨q1, q2⟩ := hq.resolve_left hb
    clear hq hz hb a1 b1
    have hs : (B.sg n b == 0) = false := by rw [q2]; rfl
    have hs2 : (B.sg n b == -1) = true := by rw [q2]; rfl
    have hs3 : (B.sg n a == wrap64 (-wrap64 (2 ^ (n.toNat - 1)))) = true := by
      rw [e2, B.wrap64_id (x := B.pw (n - 1)) (by omega) (by omega), B.wrap64_id (by omega) (by omega), q1]; simp
    clear q1 q2 h3 h4 e2
    go_enter Tryz.func210, Tryz.ntmps210
    go_wp2_with fail
    refine H1.out.mono ?_
    rintro e w' ⟨rfl, rfl⟩
    go_wp2_with fail
    refine H2.out.mono ?_
    rintro e w' ⟨rfl, rfl⟩
    go_wp2
    go_ret3
    exact ⟨rfl, rfl⟩

theorem quotient_some (n a b : Int) (w : World) (h : B.Wds n a b) (hq : ¬ (b = 0 ∨ (B.sg n a = -B.pw (n - 1) ∧ B.sg n b = -1))) :
    Calls Tryz.prog 210 #[.int .i64 n, .int .u32 a, .int .u32 b] w fun e w' => e = .returned (.tuple #[.int .i64 ((B.sg n a).tdiv (B.sg n b)), .int .i64 ((B.sg n a).tmod (B.sg n b)), .bool true]) ∧ Dr w w' := by
  obtain ⟨n0, n1, a0, a1, b0, b1⟩ := h
  have H1 := Lib.hid (signed_any n a w n0 n1 a0 a1)
  have H2 := Lib.hid (signed_any n b w n0 n1 b0 b1)
  have hz := B.sg_zero n0 b0 b1
  have h3 := B.pw_le31 (show n - 1 ≤ 31 by omega)
  have h4 := B.pw_pos (n - 1)
  have hlo := B.sg_lo n0 a0
  have hhi := B.sg_hi n0 a1
  have e2 : (2 : Int) ^ (n.toNat - 1) = B.pw (n - 1) := B.pw_sub n0
  have hb : b ≠ 0 := fun h => hq (.inl h)
  have hne : B.sg n b ≠ 0 := fun h => hb (hz.1 h)
  have hs : (B.sg n b == 0) = false := by simpa using hne
  have bd := B.tdiv_bound (B.sg n a) (B.sg n b)
  have bm := B.tmod_bound (B.sg n a) (B.sg n b)
  have ed : wrap64 ((B.sg n a).tdiv (B.sg n b)) = (B.sg n a).tdiv (B.sg n b) := B.wrap64_id (by omega) (by omega)
  have em : wrap64 ((B.sg n a).tmod (B.sg n b)) = (B.sg n a).tmod (B.sg n b) := B.wrap64_id (by omega) (by omega)
  by_cases hb1 : B.sg n b = -1
  · have hs2 : (B.sg n b == -1) = true := by rw [hb1]; rfl
    have hs3 : (B.sg n a == wrap64 (-wrap64 (2 ^ (n.toNat - 1)))) = false := by
      rw [e2, B.wrap64_id (x := B.pw (n - 1)) (by omega) (by omega), B.wrap64_id (by omega) (by omega)]
      have : B.sg n a ≠ -B.pw (n - 1) := fun h => hq (.inr ⟨h, hb1⟩)
      simpa using this
    clear hq hz hb a1 b1 hb1 e2 h3 h4 hlo hhi bd bm em
    have Hd := Lib.hid ed; clear ed
    go_enter Tryz.func210, Tryz.ntmps210
    go_wp2_with fail
    refine H1.out.mono ?_
    rintro e w' ⟨rfl, rfl⟩
    go_wp2_with fail
    refine H2.out.mono ?_
    rintro e w' ⟨rfl, rfl⟩
    go_wp2
    go_quiet (fail)
    go_wp2
    go_ret3
    exact ⟨ret_iib Hd.out rfl, ⟨_, rfl⟩⟩
  · have hs2 : (B.sg n b == -1) = false := by simpa using hb1
    clear hq hz hb a1 b1 hb1 e2 h3 h4 hlo hhi bd bm em
    have Hd := Lib.hid ed; clear ed
    go_enter Tryz.func210, Tryz.ntmps210
    go_wp2_with fail
    refine H1.out.mono ?_
    rintro e w' ⟨rfl, rfl⟩
    go_wp2_with fail
    refine H2.out.mono ?_
    rintro e w' ⟨rfl, rfl⟩
    go_wp2
    go_quiet (fail)
    go_wp2
    go_ret3
    exact ⟨ret_iib Hd.out rfl, ⟨_, rfl⟩⟩

/-- What is asked of the function that does operation k on words. -/
def DoesAt (k : Int) (f : Nat) (caps : Array Value) (w : World) : Prop := ∀ n a b : Int, B.Wds n a b →
  Calls Tryz.prog f (#[.int .i64 n, .int .u32 a, .int .u32 b] ++ caps) w fun e w' => e = .returned (.tuple #[.int .u32 (B.full k n a b), .bool (B.has k n a b)]) ∧ Dr w w'

theorem wraps_do (k : Int) (g B0 : Nat) (w : World) (eg : ∀ args w, (callFunc g args).run Tryz.prog w = .ok (.enter g args) w) (x : Int → Int → Int) (hc : w.cell? ⟨B0, 0, none⟩ = some (.func (.func g) #[] #[]))
    (hg : ∀ a b : Int, Calls Tryz.prog g #[.int .u32 a, .int .u32 b] w fun e w' => e = .returned (.int .u32 (x a b % 4294967296)) ∧ w = w') (hx : ∀ n a b, B.do_ k n a b = some (x a b % B.pw n)) : DoesAt k 246 #[.pointer (some ⟨B0, 0, none⟩)] w := by
  intro n a b h
  obtain ⟨n0, n1, a0, a1, b0, b1⟩ := h
  have H1 := Lib.hid (hg a b); clear hg
  have H2 := Lib.hid (mask_any n w (by omega) n1)
  have Hx := Lib.hid (hx n a b); clear hx
  show Calls Tryz.prog _ #[.int .i64 n, .int .u32 a, .int .u32 b, .pointer (some ⟨B0, 0, none⟩)] w _
  have He := B.mask_mod (x a b) n1
  have HE := Lib.hid He; clear He a1 b1
  generalize x a b % 4294967296 = y at H1 HE
  generalize B.pw n - 1 = z at H2 HE
  go_enter Tryz.func246, Tryz.ntmps246
  go_wp2_with fail
  refine H1.out.mono ?_
  rintro e w' ⟨rfl, rfl⟩
  go_wp2_with fail
  refine H2.out.mono ?_
  rintro e w' ⟨rfl, rfl⟩
  go_wp2
  go_ret2
  exact ⟨ret_wb (by rw [B.full, Hx.out, HE.out]; rfl) (by rw [B.has, Hx.out]; rfl), Dr.refl _⟩

theorem plain_do (k : Int) (g B0 : Nat) (w : World) (eg : ∀ args w, (callFunc g args).run Tryz.prog w = .ok (.enter g args) w) (x : Int → Int → Int) (hc : w.cell? ⟨B0, 0, none⟩ = some (.func (.func g) #[] #[]))
    (hg : ∀ a b : Int, 0 ≤ a → a < 4294967296 → 0 ≤ b → b < 4294967296 → Calls Tryz.prog g #[.int .u32 a, .int .u32 b] w fun e w' => e = .returned (.int .u32 (x a b)) ∧ w = w') (hx : ∀ n a b, B.do_ k n a b = some (x a b)) : DoesAt k 247 #[.pointer (some ⟨B0, 0, none⟩)] w := by
  intro n a b h
  obtain ⟨n0, n1, a0, a1, b0, b1⟩ := h
  have hl := B.pw_le n1
  have H1 := Lib.hid (hg a b a0 (by omega) b0 (by omega)); clear hg hl
  have Hx := Lib.hid (hx n a b); clear hx
  show Calls Tryz.prog _ #[.int .i64 n, .int .u32 a, .int .u32 b, .pointer (some ⟨B0, 0, none⟩)] w _
  clear a1 b1
  generalize x a b = y at H1 Hx
  go_enter Tryz.func247, Tryz.ntmps247
  go_wp2_with fail
  refine H1.out.mono ?_
  rintro e w' ⟨rfl, rfl⟩
  go_wp2
  go_ret2
  exact ⟨ret_wb (by rw [B.full, Hx.out]; rfl) (by rw [B.has, Hx.out]; rfl), Dr.refl _⟩

theorem small1_any (a b : Int) (w : World) : Calls Tryz.prog 200 #[.int .u32 a, .int .u32 b] w fun e w' => e = .returned (.int .u32 ((a + b) % 4294967296)) ∧ w = w' := by
  go_enter Tryz.func200, Tryz.ntmps200
  go_wp2
  go_ret
  exact ⟨rfl, rfl⟩
theorem small2_any (a b : Int) (w : World) : Calls Tryz.prog 202 #[.int .u32 a, .int .u32 b] w fun e w' => e = .returned (.int .u32 ((a - b) % 4294967296)) ∧ w = w' := by
  go_enter Tryz.func202, Tryz.ntmps202
  go_wp2
  go_ret
  exact ⟨rfl, rfl⟩
theorem small3_any (a b : Int) (w : World) : Calls Tryz.prog 205 #[.int .u32 a, .int .u32 b] w fun e w' => e = .returned (.int .u32 ((a * b) % 4294967296)) ∧ w = w' := by
  go_enter Tryz.func205, Tryz.ntmps205
  go_wp2
  go_ret
  exact ⟨rfl, rfl⟩
theorem small8_any (a b : Int) (w : World) (a0 : 0 ≤ a) (a1 : a < 4294967296) (b0 : 0 ≤ b) (b1 : b < 4294967296) : Calls Tryz.prog 214 #[.int .u32 a, .int .u32 b] w fun e w' => e = .returned (.int .u32 (((a.toNat &&& b.toNat : Nat) : Int))) ∧ w = w' := by
  go_enter Tryz.func214, Tryz.ntmps214
  go_wp2
  go_ret
  exact ⟨ret_int (u32_and a b a0 a1 b0 b1), rfl⟩
theorem small9_any (a b : Int) (w : World) (a0 : 0 ≤ a) (a1 : a < 4294967296) (b0 : 0 ≤ b) (b1 : b < 4294967296) : Calls Tryz.prog 215 #[.int .u32 a, .int .u32 b] w fun e w' => e = .returned (.int .u32 (((a.toNat ||| b.toNat : Nat) : Int))) ∧ w = w' := by
  go_enter Tryz.func215, Tryz.ntmps215
  go_wp2
  go_ret
  exact ⟨ret_int (u32_or a b a0 a1 b0 b1), rfl⟩
theorem small10_any (a b : Int) (w : World) (a0 : 0 ≤ a) (a1 : a < 4294967296) (b0 : 0 ≤ b) (b1 : b < 4294967296) : Calls Tryz.prog 216 #[.int .u32 a, .int .u32 b] w fun e w' => e = .returned (.int .u32 (((a.toNat ^^^ b.toNat : Nat) : Int))) ∧ w = w' := by
  go_enter Tryz.func216, Tryz.ntmps216
  go_wp2
  go_ret
  exact ⟨ret_int (u32_xor a b a0 a1 b0 b1), rfl⟩
end Go.Proofs.YtbiopedpceddeaaGreatDoor
end
section
namespace Go.Proofs.YtbiopedpceddeaaGreatDoor
open Go.RowKit
set_option linter.unusedVariables false

theorem does4 (w : World) : DoesAt 4 206 #[] w := by
  intro n a b h
  obtain ⟨n0, n1, a0, a1, b0, b1⟩ := h
  have hl := B.pw_le n1
  have a2 : a < 4294967296 := by omega
  have b2 : b < 4294967296 := by omega
  show Calls Tryz.prog _ #[.int .i64 n, .int .u32 a, .int .u32 b] w _
  have HM := Lib.hid (fun W => mask_any n W (by omega) n1)
  by_cases hb : b = 0
  · have hs : (b == 0) = true := by simpa using hb
    have Hx := Lib.hid (show B.do_ 4 n a b = none by rw [B.do_4, if_pos hb])
    clear hb a1 b1 hl
    go_enter Tryz.func206, Tryz.ntmps206
    go_wp2_with fail
    refine (HM.out _).mono ?_
    rintro e w' ⟨rfl, rfl⟩
    go_wp2
    go_ret2
    exact ⟨ret_wb (by rw [B.full, Hx.out]; rfl) (by rw [B.has, Hx.out]; rfl), Dr.refl _⟩
  · have hs : (b == 0) = false := by simpa using hb
    have hb1 : 1 ≤ b := by omega
    have Hx := Lib.hid (show B.do_ 4 n a b = some (a / b) by rw [B.do_4, if_neg hb])
    clear hb a1 b1 hl
    go_enter Tryz.func206, Tryz.ntmps206
    go_wp2
    go_ret2
    exact ⟨ret_wb (by rw [B.full, Hx.out]; rfl) (by rw [B.has, Hx.out]; rfl), Dr.refl _⟩

theorem does5 (w : World) : DoesAt 5 208 #[] w := by
  intro n a b h
  obtain ⟨n0, n1, a0, a1, b0, b1⟩ := h
  have hl := B.pw_le n1
  have a2 : a < 4294967296 := by omega
  have b2 : b < 4294967296 := by omega
  show Calls Tryz.prog _ #[.int .i64 n, .int .u32 a, .int .u32 b] w _
  by_cases hb : b = 0
  · have hs : (b == 0) = true := by simpa using hb
    have Hx := Lib.hid (show B.do_ 5 n a b = none by rw [B.do_5, if_pos hb])
    clear hb a1 b1 hl
    go_enter Tryz.func208, Tryz.ntmps208
    go_wp2
    go_ret2
    exact ⟨ret_wb (by rw [B.full, Hx.out]; rfl) (by rw [B.has, Hx.out]; rfl), Dr.refl _⟩
  · have hs : (b == 0) = false := by simpa using hb
    have hb1 : 1 ≤ b := by omega
    have Hx := Lib.hid (show B.do_ 5 n a b = some (a % b) by rw [B.do_5, if_neg hb])
    clear hb a1 b1 hl
    go_enter Tryz.func208, Tryz.ntmps208
    go_wp2
    go_ret2
    exact ⟨ret_wb (by rw [B.full, Hx.out]; rfl) (by rw [B.has, Hx.out]; rfl), Dr.refl _⟩

theorem quot_any (n a b : Int) (w : World) (h : B.Wds n a b) : ∃ (q r : Int) (ok : Bool),
    (Calls Tryz.prog 210 #[.int .i64 n, .int .u32 a, .int .u32 b] w fun e w' => e = .returned (.tuple #[.int .i64 q, .int .i64 r, .bool ok]) ∧ Dr w w') ∧
    ((b = 0 ∨ (B.sg n a = -B.pw (n - 1) ∧ B.sg n b = -1)) ∧ q = 0 ∧ r = 0 ∧ ok = false ∨
     ¬ (b = 0 ∨ (B.sg n a = -B.pw (n - 1) ∧ B.sg n b = -1)) ∧ q = (B.sg n a).tdiv (B.sg n b) ∧ r = (B.sg n a).tmod (B.sg n b) ∧ ok = true) := by
  by_cases hq : b = 0 ∨ (B.sg n a = -B.pw (n - 1) ∧ B.sg n b = -1)
  · exact ⟨0, 0, false, (quotient_none n a b w h hq).mono fun e w' ⟨h1, h2⟩ => ⟨h1, by rw [h2]; exact Dr.refl _⟩, .inl ⟨hq, rfl, rfl, rfl⟩⟩
  · exact ⟨_, _, true, quotient_some n a b w h hq, .inr ⟨hq, rfl, rfl, rfl⟩⟩

theorem does6 (w : World) : DoesAt 6 209 #[] w := by
  intro n a b h
  obtain ⟨q, r, ok, hQ, hcase⟩ := quot_any n a b w h
  have HQ := Lib.hid hQ; clear hQ
  obtain ⟨n0, n1, a0, a1, b0, b1⟩ := h
  have hl := B.pw_le n1
  have a2 : a < 4294967296 := by omega
  have b2 : b < 4294967296 := by omega
  show Calls Tryz.prog _ #[.int .i64 n, .int .u32 a, .int .u32 b] w _
  have HM := Lib.hid (fun W => mask_any n W (by omega) n1)
  have HS := Lib.hid (fun W => signed_any n a W n0 n1 a0 a1)
  rcases hcase with ⟨hq, rfl, rfl, rfl⟩ | ⟨hq, hq2, _, rfl⟩
  · have hx : B.do_ 6 n a b = none := by rw [B.do_6, if_pos hq]
    by_cases hb : b = 0
    · have hs : (b != 0) = false := by simpa using hb
      by_cases hsg : B.sg n a < 0
      · have hf : B.full 6 n a b = 1 ∧ B.has 6 n a b = false := by rw [B.full, B.has, hx]; simp [B.els, hb, hsg]
        have Hf := Lib.hid hf; clear hf hx hq hb a1 b1 hl
        go_enter Tryz.func209, Tryz.ntmps209
        go_wp2_with fail
        refine HQ.out.mono ?_
        rintro e w1 ⟨rfl, hd⟩
        go_wp2_with fail
        refine (HS.out _).mono ?_
        rintro e w' ⟨rfl, rfl⟩
        go_wp2
        go_ret2
        exact ⟨ret_wb Hf.out.1.symm Hf.out.2.symm, hd⟩
      · have hf : B.full 6 n a b = B.pw n - 1 ∧ B.has 6 n a b = false := by rw [B.full, B.has, hx]; simp [B.els, hb, hsg]
        have Hf := Lib.hid hf; clear hf hx hq hb a1 b1 hl
        go_enter Tryz.func209, Tryz.ntmps209
        go_wp2_with fail
        refine HQ.out.mono ?_
        rintro e w1 ⟨rfl, hd⟩
        go_wp2_with fail
        refine (HS.out _).mono ?_
        rintro e w' ⟨rfl, rfl⟩
        go_wp2_with fail
        refine (HM.out _).mono ?_
        rintro e w' ⟨rfl, rfl⟩
        go_wp2
        go_ret2
        exact ⟨ret_wb Hf.out.1.symm Hf.out.2.symm, hd⟩
    · have hs : (b != 0) = true := by simpa using hb
      have hf : B.full 6 n a b = a ∧ B.has 6 n a b = false := by rw [B.full, B.has, hx]; simp [B.els, hb]
      have Hf := Lib.hid hf; clear hf hx hq hb a1 b1 hl
      go_enter Tryz.func209, Tryz.ntmps209
      go_wp2_with fail
      refine HQ.out.mono ?_
      rintro e w1 ⟨rfl, hd⟩
      go_wp2
      go_ret2
      exact ⟨ret_wb Hf.out.1.symm Hf.out.2.symm, hd⟩
  · have hf : B.full 6 n a b = q % B.pw n ∧ B.has 6 n a b = true := by rw [B.full, B.has, B.do_6, if_neg hq, hq2]; exact ⟨rfl, rfl⟩
    have he := B.mask_mod q n1
    have Hf := Lib.hid hf
    have He := Lib.hid he; clear hf he hq hq2 a1 b1 hl
    generalize B.pw n - 1 = z at HM He
    go_enter Tryz.func209, Tryz.ntmps209
    go_wp2_with fail
    refine HQ.out.mono ?_
    rintro e w1 ⟨rfl, hd⟩
    go_wp2_with fail
    refine (HM.out _).mono ?_
    rintro e w' ⟨rfl, rfl⟩
    go_wp2
    go_ret2
    exact ⟨ret_wb (He.out.trans Hf.out.1.symm) Hf.out.2.symm, hd⟩

theorem does7 (w : World) : DoesAt 7 212 #[] w := by
  intro n a b h
  obtain ⟨q, r, ok, hQ, hcase⟩ := quot_any n a b w h
  have HQ := Lib.hid hQ; clear hQ
  obtain ⟨n0, n1, a0, a1, b0, b1⟩ := h
  have hl := B.pw_le n1
  have a2 : a < 4294967296 := by omega
  have b2 : b < 4294967296 := by omega
  show Calls Tryz.prog _ #[.int .i64 n, .int .u32 a, .int .u32 b] w _
  have HM := Lib.hid (fun W => mask_any n W (by omega) n1)
  rcases hcase with ⟨hq, rfl, rfl, rfl⟩ | ⟨hq, _, hq2, rfl⟩
  · have hx : B.do_ 7 n a b = none := by rw [B.do_7, if_pos hq]
    by_cases hb : b = 0
    · have hs : (b == 0) = true := by simpa using hb
      have hf : B.full 7 n a b = a ∧ B.has 7 n a b = false := by rw [B.full, B.has, hx]; simp [B.els, hb]
      have Hf := Lib.hid hf; clear hf hx hq hb a1 b1 hl
      go_enter Tryz.func212, Tryz.ntmps212
      go_wp2_with fail
      refine HQ.out.mono ?_
      rintro e w1 ⟨rfl, hd⟩
      go_wp2
      go_ret2
      exact ⟨ret_wb Hf.out.1.symm Hf.out.2.symm, hd⟩
    · have hs : (b == 0) = false := by simpa using hb
      have hf : B.full 7 n a b = 0 ∧ B.has 7 n a b = false := by rw [B.full, B.has, hx]; simp [B.els, hb]
      have he := B.mask_mod 0 n1
      have he2 : (0 : Int) % 4294967296 = 0 := rfl
      rw [he2, Int.zero_emod] at he
      have Hf := Lib.hid hf; clear hf hx hq hb a1 b1 hl he2
      have He := Lib.hid he; clear he
      generalize B.pw n - 1 = z at HM He
      go_enter Tryz.func212, Tryz.ntmps212
      go_wp2_with fail
      refine HQ.out.mono ?_
      rintro e w1 ⟨rfl, hd⟩
      go_wp2_with fail
      refine (HM.out _).mono ?_
      rintro e w' ⟨rfl, rfl⟩
      go_wp2
      go_ret2
      exact ⟨ret_wb (He.out.trans Hf.out.1.symm) Hf.out.2.symm, hd⟩
  · have hf : B.full 7 n a b = r % B.pw n ∧ B.has 7 n a b = true := by rw [B.full, B.has, B.do_7, if_neg hq, hq2]; exact ⟨rfl, rfl⟩
    have he := B.mask_mod r n1
    have Hf := Lib.hid hf
    have He := Lib.hid he; clear hf he hq hq2 a1 b1 hl
    generalize B.pw n - 1 = z at HM He
    go_enter Tryz.func212, Tryz.ntmps212
    go_wp2_with fail
    refine HQ.out.mono ?_
    rintro e w1 ⟨rfl, hd⟩
    go_wp2_with fail
    refine (HM.out _).mono ?_
    rintro e w' ⟨rfl, rfl⟩
    go_wp2
    go_ret2
    exact ⟨ret_wb (He.out.trans Hf.out.1.symm) Hf.out.2.symm, hd⟩

theorem does11 (w : World) : DoesAt 11 217 #[] w := by
  intro n a b h
  obtain ⟨n0, n1, a0, a1, b0, b1⟩ := h
  have hl := B.pw_le n1
  have a2 : a < 4294967296 := by omega
  have b2 : b < 4294967296 := by omega
  show Calls Tryz.prog _ #[.int .i64 n, .int .u32 a, .int .u32 b] w _
  have HM := Lib.hid (fun W => mask_any n W (by omega) n1)
  by_cases hb : n ≤ b
  · have hf : B.full 11 n a b = 0 ∧ B.has 11 n a b = false := by rw [B.full, B.has, B.do_11, if_pos hb]; exact ⟨rfl, rfl⟩
    have Hf := Lib.hid hf; clear hf a1 b1 hl
    go_enter Tryz.func217, Tryz.ntmps217
    go_wp2
    go_ret2
    exact ⟨ret_wb Hf.out.1.symm Hf.out.2.symm, Dr.refl _⟩
  · have hf : B.full 11 n a b = a * B.pw b % B.pw n ∧ B.has 11 n a b = true := by rw [B.full, B.has, B.do_11, if_neg hb]; exact ⟨rfl, rfl⟩
    have he := B.mask_mod (a * B.pw b) n1
    have hb' : b < n := by omega
    have Hf := Lib.hid hf
    have He := Lib.hid he; clear hf he a1 b1 hl hb
    generalize B.pw n - 1 = z at HM He
    go_enter Tryz.func217, Tryz.ntmps217
    go_wp2_with fail
    refine (HM.out _).mono ?_
    rintro e w' ⟨rfl, rfl⟩
    go_wp2
    go_ret2
    exact ⟨ret_wb (He.out.trans Hf.out.1.symm) Hf.out.2.symm, Dr.refl _⟩

theorem does12 (w : World) : DoesAt 12 219 #[] w := by
  intro n a b h
  obtain ⟨n0, n1, a0, a1, b0, b1⟩ := h
  have hl := B.pw_le n1
  have a2 : a < 4294967296 := by omega
  have b2 : b < 4294967296 := by omega
  show Calls Tryz.prog _ #[.int .i64 n, .int .u32 a, .int .u32 b] w _
  by_cases hb : n ≤ b
  · have hf : B.full 12 n a b = 0 ∧ B.has 12 n a b = false := by rw [B.full, B.has, B.do_12, if_pos hb]; exact ⟨rfl, rfl⟩
    have Hf := Lib.hid hf; clear hf a1 b1 hl
    go_enter Tryz.func219, Tryz.ntmps219
    go_wp2
    go_ret2
    exact ⟨ret_wb Hf.out.1.symm Hf.out.2.symm, Dr.refl _⟩
  · have hf : B.full 12 n a b = a / B.pw b ∧ B.has 12 n a b = true := by rw [B.full, B.has, B.do_12, if_neg hb]; exact ⟨rfl, rfl⟩
    have hb' : b < n := by omega
    have Hf := Lib.hid hf; clear hf a1 b1 hl hb
    go_enter Tryz.func219, Tryz.ntmps219
    go_wp2
    go_ret2
    exact ⟨ret_wb Hf.out.1.symm Hf.out.2.symm, Dr.refl _⟩

theorem does13 (w : World) : DoesAt 13 221 #[] w := by
  intro n a b h
  obtain ⟨n0, n1, a0, a1, b0, b1⟩ := h
  have hl := B.pw_le n1
  have a2 : a < 4294967296 := by omega
  have b2 : b < 4294967296 := by omega
  show Calls Tryz.prog _ #[.int .i64 n, .int .u32 a, .int .u32 b] w _
  have HM := Lib.hid (fun W => mask_any n W (by omega) n1)
  have HS := Lib.hid (fun W => signed_any n a W n0 n1 a0 a1)
  have HG := Lib.hid (fun W => sign_any n a W n0 n1 a0 a1)
  by_cases hb : n ≤ b
  · have hf : B.full 13 n a b = (if B.sg n a < 0 then B.pw n - 1 else 0) ∧ B.has 13 n a b = false := by rw [B.full, B.has, B.do_13, if_pos hb]; exact ⟨rfl, rfl⟩
    have Hf := Lib.hid hf; clear hf a1 b1 hl
    generalize (if B.sg n a < 0 then B.pw n - 1 else 0) = z at HG Hf
    go_enter Tryz.func221, Tryz.ntmps221
    go_wp2_with fail
    refine (HG.out _).mono ?_
    rintro e w' ⟨rfl, rfl⟩
    go_wp2
    go_ret2
    exact ⟨ret_wb Hf.out.1.symm Hf.out.2.symm, Dr.refl _⟩
  · have hf : B.full 13 n a b = B.sg n a / B.pw b % B.pw n ∧ B.has 13 n a b = true := by rw [B.full, B.has, B.do_13, if_neg hb]; exact ⟨rfl, rfl⟩
    have he := B.mask_mod (B.sg n a / B.pw b) n1
    have hb' : b < n := by omega
    have Hf := Lib.hid hf
    have He := Lib.hid he; clear hf he a1 b1 hl hb
    generalize B.pw n - 1 = z at HM He
    go_enter Tryz.func221, Tryz.ntmps221
    go_wp2_with fail
    refine (HS.out _).mono ?_
    rintro e w' ⟨rfl, rfl⟩
    go_wp2_with fail
    refine (HM.out _).mono ?_
    rintro e w' ⟨rfl, rfl⟩
    go_wp2
    go_ret2
    exact ⟨ret_wb (He.out.trans Hf.out.1.symm) Hf.out.2.symm, Dr.refl _⟩
end Go.Proofs.YtbiopedpceddeaaGreatDoor
end
section
namespace Go.Proofs.YtbiopedpceddeaaGreatDoor
open Go.RowKit Go.Maps Go.Shelf
set_option linter.unusedVariables false

theorem take_succ_of {α : Type} {xs : List α} {k : Nat} {x : α} (h : xs[k]? = some x) : xs.take (k + 1) = xs.take k ++ [x] := by
  rw [List.take_add_one, h]; rfl
theorem take_all {α : Type} {xs : List α} {n k : Nat} (hn : xs.length = n) (h : n ≤ k) : xs.take k = xs := List.take_of_length_le (by omega)
theorem all_take_step {α : Type} {p : α → Bool} {xs : List α} {k : Nat} {x : α} (hx : xs[k]? = some x) (h : (xs.take k).all p = true) (hp : p x = true) : (xs.take (k + 1)).all p = true := by
  rw [take_succ_of hx, List.all_append, h]; simp [hp]
theorem all_false_at {α : Type} {p : α → Bool} {xs : List α} {k : Nat} {x : α} (hx : xs[k]? = some x) (hp : p x = false) : xs.all p = false := by
  cases h : xs.all p
  · rfl
  · rw [List.all_eq_true] at h; rw [h x (List.mem_of_getElem? hx)] at hp; cases hp

set_option maxHeartbeats 400000 in
theorem fits_any (n : Int) (A : Option Addr) (m c : Nat) (xs : List Int) (w : World) (hA : SlAt (IntR .u32) w A m xs) :
    Calls Tryz.prog 102 #[.int .i64 n, .slice A m c] w fun e w' => e = .returned (.bool (B.isWd n && xs.all fun x => decide (x < B.pw n))) ∧ w = w' := by
  have hl := hA.le
  have HA := Lib.hid hA; clear hA
  have H1 := Lib.hid (isWidth_any n w)
  cases h : B.isWd n
  · rw [h] at H1
    clear h
    go_enter Tryz.func102, Tryz.ntmps102
    go_wp2_with fail
    refine H1.out.mono ?_
    rintro e w' ⟨rfl, rfl⟩
    go_wp2
    go_ret
    exact ⟨rfl, rfl⟩
  · have hn := B.isWd_iff.1 h
    rw [h] at H1
    have HM := Lib.hid (fun W => mask_any n W (by omega) hn.2)
    clear h hn
    go_enter Tryz.func102, Tryz.ntmps102
    go_wp2_with fail
    refine H1.out.mono ?_
    rintro e w' ⟨rfl, rfl⟩
    go_wp2
    go_loop [12] (fun i => ∃ k : Nat, k ≤ m ∧ i = .int .i64 k ∧ Hid ((xs.take k).all (fun x => decide (x < B.pw n)) = true)) (fun i => m - (intOf i).toNat)
    case atStart => exact ⟨0, Nat.zero_le _, rfl, rfl⟩
    case round =>
      obtain ⟨k, hk, rfl, HT⟩ := hrel
      by_cases hlt : k < m
      · obtain ⟨x, b, off, u, hx, rfl, _, h1, rfl⟩ := HA.out.at_ hlt
        have Hx := Lib.hid hx; clear hx
        by_cases hc : x < B.pw n
        · have hd : decide (B.pw n - 1 < x) = false := by simp; omega
          have Hc := Lib.hid hc; clear hc
          generalize B.pw n - 1 = z at HM hd
          go_wp2_with fail
          refine (HM.out _).mono ?_
          rintro e w' ⟨rfl, rfl⟩
          go_wp2
          go_round
          case rel => exact ⟨k + 1, by omega, by go_num, all_take_step Hx.out HT.out (by simpa using Hc.out)⟩
          case measure => simp [intOf]; omega
        · have hd : decide (B.pw n - 1 < x) = true := by simp; omega
          have Hc := Lib.hid (show decide (x < B.pw n) = false by simpa using hc); clear hc
          generalize B.pw n - 1 = z at HM hd
          go_wp2_with fail
          refine (HM.out _).mono ?_
          rintro e w' ⟨rfl, rfl⟩
          go_wp2
          go_ret
          exact ⟨ret_bool (by rw [all_false_at Hx.out Hc.out]; rfl), rfl⟩
      · go_wp2
        go_ret
        have h3 := HT.out
        rw [take_all HA.out.len (by omega)] at h3
        exact ⟨ret_bool (by rw [h3]), rfl⟩

theorem wraps_any (f g : Nat) (w : World) : Calls Tryz.prog 198 #[.func (.func f) #[] #[], .func (.func g) #[] #[]] w fun e w' =>
    e = .returned (.agg #[.func (.func 246) #[] #[.pointer (some ⟨w.heap.size, 0, none⟩)], .func (.func f) #[] #[], .nilFunc]) ∧ w'.heap[w.heap.size]? = some (.cells #[.func (.func g) #[] #[]] 241 (0, 0)) ∧ Below w.heap.size w w' ∧ w.heap.size < w'.heap.size := by
  go_enter Tryz.func198, Tryz.ntmps198
  go_wp2
  exact bodyPost_ret (v := .agg #[.func (.func 246) #[] #[.pointer (some ⟨w.heap.size, 0, none⟩)], .func (.func f) #[] #[], .nilFunc]) (by simp [results, Tryz.results198, go_sem]) rfl
    ⟨rfl, (Below.heap_alloc _ _ _ (by simp)).trans (heap_alloc_new w _), ((Below.refl _ _).alloc (Nat.le_refl _) _).alloc (by simp) _, by simp; omega⟩
theorem plain_any (g : Nat) (w : World) : Calls Tryz.prog 213 #[.func (.func g) #[] #[]] w fun e w' =>
    e = .returned (.agg #[.func (.func 247) #[] #[.pointer (some ⟨w.heap.size, 0, none⟩)], .nilFunc, .nilFunc]) ∧ w'.heap[w.heap.size]? = some (.cells #[.func (.func g) #[] #[]] 241 (0, 0)) ∧ Below w.heap.size w w' ∧ w.heap.size < w'.heap.size := by
  go_enter Tryz.func213, Tryz.ntmps213
  go_wp2
  exact bodyPost_ret (v := .agg #[.func (.func 247) #[] #[.pointer (some ⟨w.heap.size, 0, none⟩)], .nilFunc, .nilFunc]) (by simp [results, Tryz.results213, go_sem]) rfl
    ⟨rfl, (Below.heap_alloc _ _ _ (by simp)).trans (heap_alloc_new w _), ((Below.refl _ _).alloc (Nat.le_refl _) _).alloc (by simp) _, by simp; omega⟩

/-- 'm[k] = v' of a composite literal, at the operation. -/
theorem wpList_insert_at {κ α : Type} [DecidableEq κ] {P : Program} {kt et t : TypeId} {ek : κ → Value} {R : World → κ → Value → α → Prop} {w : World} {b : Nat} {l : List (κ × α)}
    {ops : Array Oper} {rest : List Oper} {o : Oper} {a : Act} {Q : Exit → Act → World → Prop} (hg : o.guard = none) (m x v : Operand) (hop : o.op = Op.insert t m x v)
    (h : MapAt P kt ek R w b l) (K : Keyed P kt) (hinj : ∀ a b, ek a = ek b → a = b) (ht : P.underlying t = some (.map kt et)) (k : κ) (val : Value) {kl : Lit} (hkey : keyOf P kt (ek k) = some kl)
    (hm : a.eval m = .map (some b)) (hx : a.eval x = ek k) (hv : a.eval v = val)
    (hK : ∀ w', w.grownBy w' (some b) → w'.heap.size = w.heap.size → (∀ (R' : World → κ → Value → α → Prop) (a : α), (∀ k' u a', k' ≠ k → R w k' u a' → R' w' k' u a') → R' w' k val a → MapAt P kt ek R' w' b (AL.put l k a)) →
      wpList P ops Q rest (a.put o.dst undef) w') : wpList P ops Q (o :: rest) a w := by
  refine wpList_plain hg fun K' hK' => ?_
  obtain ⟨w', hrun, r1, r2, r3⟩ := h.update K hinj ht hkey val
  unfold Oper.wp
  simp [execOp, hop, hm, hx, hv, hrun, Result.andThen]
  exact hK' _ _ (hK w' r1 r2 r3)

/-- An element of the table of operations: its function does what operation k does, as long as the blocks that it has captured stay. -/
def ElB (b : Nat) (w : World) (k : Int) (u : Value) (_ : Unit) : Prop :=
  ∃ (f : Nat) (caps : Array Value) (v1 v2 : Value) (own : List Nat), u = .agg #[.func (.func f) #[] caps, v1, v2] ∧ (v1.oneCell' = true ∧ v2.oneCell' = true) ∧ (∀ args w, (callFunc f args).run Tryz.prog w = .ok (.enter f args) w) ∧
    (∀ B0 ∈ own, B0 < w.heap.size ∧ b < B0) ∧ ∀ W : World, (∀ B0 ∈ own, W.heap[B0]? = w.heap[B0]?) → DoesAt k f caps W

theorem ElB.keep {b : Nat} {w w' : World} {k : Int} {u : Value} {x : Unit} (h : ElB b w k u x) (hg : w.grownBy w' (some b)) : ElB b w' k u x := by
  obtain ⟨f, caps, v1, v2, own, hu, hv, he, ho, hd⟩ := h
  exact ⟨f, caps, v1, v2, own, hu, hv, he, fun B0 hB => ⟨Nat.lt_of_lt_of_le (ho B0 hB).1 hg.size, (ho B0 hB).2⟩, fun W hW => hd W fun B0 hB => (hW B0 hB).trans (hg.block B0 (ho B0 hB).1 (fun e => Nat.lt_irrefl b (by injection e with e; have h9 := (ho B0 hB).2; rw [e] at h9; exact h9)))⟩
theorem ElB.below {b : Nat} {w w' : World} {k : Int} {u : Value} {x : Unit} (h : ElB b w k u x) (hb : Below w.heap.size w w') : ElB b w' k u x := by
  obtain ⟨f, caps, v1, v2, own, hu, hv, he, ho, hd⟩ := h
  exact ⟨f, caps, v1, v2, own, hu, hv, he, fun B0 hB => ⟨Nat.lt_of_lt_of_le (ho B0 hB).1 hb.size, (ho B0 hB).2⟩, fun W hW => hd W fun B0 hB => (hW B0 hB).trans (hb.block B0 (ho B0 hB).1)⟩

theorem elB_wraps {b B1 : Nat} {w : World} {k : Int} {g : Nat} {v1 v2 : Value} (hv : v1.oneCell' = true ∧ v2.oneCell' = true) {T : TypeId} (hB : w.heap[B1]? = some (.cells #[.func (.func g) #[] #[]] T (0, 0))) (hne : b < B1)
    (eg : ∀ args w, (callFunc g args).run Tryz.prog w = .ok (.enter g args) w) (x : Int → Int → Int)
    (hg : ∀ (a b : Int) (w : World), Calls Tryz.prog g #[.int .u32 a, .int .u32 b] w fun e w' => e = .returned (.int .u32 (x a b % 4294967296)) ∧ w = w') (hx : ∀ n a b, B.do_ k n a b = some (x a b % B.pw n)) :
    ElB b w k (.agg #[.func (.func 246) #[] #[.pointer (some ⟨B1, 0, none⟩)], v1, v2]) () :=
  ⟨_, _, _, _, [B1], rfl, hv, enters_of Tryz.func246 (by kernel_rfl) rfl, fun B0 h => by rw [List.mem_singleton.1 h]; exact ⟨(Array.getElem?_eq_some_iff.1 hB).1, hne⟩,
    fun W hW => wraps_do k g B1 W eg x (cell_of_one ((hW B1 (by simp)).trans hB)) (fun a b => hg a b W) hx⟩
theorem elB_plain {b B1 : Nat} {w : World} {k : Int} {g : Nat} {v1 v2 : Value} (hv : v1.oneCell' = true ∧ v2.oneCell' = true) {T : TypeId} (hB : w.heap[B1]? = some (.cells #[.func (.func g) #[] #[]] T (0, 0))) (hne : b < B1)
    (eg : ∀ args w, (callFunc g args).run Tryz.prog w = .ok (.enter g args) w) (x : Int → Int → Int)
    (hg : ∀ (a b : Int) (w : World), 0 ≤ a → a < 4294967296 → 0 ≤ b → b < 4294967296 → Calls Tryz.prog g #[.int .u32 a, .int .u32 b] w fun e w' => e = .returned (.int .u32 (x a b)) ∧ w = w') (hx : ∀ n a b, B.do_ k n a b = some (x a b)) :
    ElB b w k (.agg #[.func (.func 247) #[] #[.pointer (some ⟨B1, 0, none⟩)], v1, v2]) () :=
  ⟨_, _, _, _, [B1], rfl, hv, enters_of Tryz.func247 (by kernel_rfl) rfl, fun B0 h => by rw [List.mem_singleton.1 h]; exact ⟨(Array.getElem?_eq_some_iff.1 hB).1, hne⟩,
    fun W hW => plain_do k g B1 W eg x (cell_of_one ((hW B1 (by simp)).trans hB)) (fun a b => hg a b W) hx⟩
theorem elB_fn {b : Nat} {w : World} {k : Int} {f : Nat} {v1 v2 : Value} (hv : v1.oneCell' = true ∧ v2.oneCell' = true) (eg : ∀ args w, (callFunc f args).run Tryz.prog w = .ok (.enter f args) w) (hd : ∀ W, DoesAt k f #[] W) :
    ElB b w k (.agg #[.func (.func f) #[] #[], v1, v2]) () :=
  ⟨f, #[], v1, v2, [], rfl, hv, eg, fun B0 h => by simp at h, fun W _ => hd W⟩
end Go.Proofs.YtbiopedpceddeaaGreatDoor
end
section
namespace Go.Proofs.YtbiopedpceddeaaGreatDoor
open Go.RowKit Go.Maps Go.Shelf
set_option linter.unusedVariables false

def OpsAt (b : Nat) (w : World) (l : List (Int × Unit)) : Prop := MapAt Tryz.prog 3 (Value.int .i64) (ElB b) w b l

theorem OpsAt.below {b : Nat} {w w' : World} {l : List (Int × Unit)} (h : OpsAt b w l) (hb : Below w.heap.size w w') : OpsAt b w' l :=
  MapAt.keep h (hb.block b h.lt) fun k u a hu => hu.below hb
theorem OpsAt.put {b : Nat} {w w' : World} {l : List (Int × Unit)} {k : Int} {val : Value} (hg : w.grownBy w' (some b))
    (hput : ∀ (R' : World → Int → Value → Unit → Prop) (a : Unit), (∀ k' u a', k' ≠ k → ElB b w k' u a' → R' w' k' u a') → R' w' k val a → MapAt Tryz.prog 3 (Value.int .i64) R' w' b (AL.put l k a)) (hv : ElB b w k val ()) : OpsAt b w' (AL.put l k ()) :=
  hput (ElB b) () (fun _ _ _ _ h => h.keep hg) (hv.keep hg)
theorem OpsAt.made (w : World) : OpsAt w.heap.size (w.alloc (.map #[] 0)) [] := MapAt.made w
theorem below_put {b : Nat} {w0 w w' : World} (hb : Below w0.heap.size w0 w) (hB : w0.heap.size ≤ b) (hg : w.grownBy w' (some b)) : Below w0.heap.size w0 w' := hb.grown hg hb.size (fun k e => by injection e with e; omega)

theorem ops_get (k : Int) : AL.get (AL.put (AL.put (AL.put (AL.put (AL.put (AL.put (AL.put (AL.put (AL.put (AL.put (AL.put (AL.put (AL.put [] 1 ()) 2 ()) 3 ()) 4 ()) 5 ()) 6 ()) 7 ()) 8 ()) 9 ()) 10 ()) 11 ()) 12 ()) 13 ()) k = if 1 ≤ k ∧ k ≤ 13 then some () else none := by
  have e : (AL.put (AL.put (AL.put (AL.put (AL.put (AL.put (AL.put (AL.put (AL.put (AL.put (AL.put (AL.put (AL.put ([] : List (Int × Unit)) 1 ()) 2 ()) 3 ()) 4 ()) 5 ()) 6 ()) 7 ()) 8 ()) 9 ()) 10 ()) 11 ()) 12 ()) 13 ()) = [(1, ()), (2, ()), (3, ()), (4, ()), (5, ()), (6, ()), (7, ()), (8, ()), (9, ()), (10, ()), (11, ()), (12, ()), (13, ())] := by decide
  rw [e]
  by_cases h : 1 ≤ k ∧ k ≤ 13
  · rw [if_pos h]
    rcases B.op_cases h.1 h.2 with rfl | rfl | rfl | rfl | rfl | rfl | rfl | rfl | rfl | rfl | rfl | rfl | rfl <;> rfl
  · rw [if_neg h]
    refine AL.get_none fun p hp e => h ?_
    simp only [List.mem_cons, List.not_mem_nil, or_false] at hp
    rcases hp with rfl | rfl | rfl | rfl | rfl | rfl | rfl | rfl | rfl | rfl | rfl | rfl | rfl <;> (subst e; decide)

set_option maxRecDepth 100000 in
set_option maxHeartbeats 4000000 in
theorem operations_any (w : World) : Calls Tryz.prog 159 #[] w fun e w' => ∃ l, e = .returned (.map (some w.heap.size)) ∧ OpsAt w.heap.size w' l ∧ (∀ k, AL.get l k = if 1 ≤ k ∧ k ≤ 13 then some () else none) ∧ Below w.heap.size w w' := by
  have hmm := @run_makeMap Tryz.prog
  have K := int_keyed Tryz.underlying3
  go_enter Tryz.func159, Tryz.ntmps159
  go_wp2_with fail
  have ho0 := OpsAt.made w
  have hb0 : Below w.heap.size w (w.alloc (.map #[] 0)) := (Below.refl _ _).alloc (Nat.le_refl _) _
  refine (wraps_any _ _ _).mono ?_
  rintro e v1 ⟨rfl, hB, hb, hs'⟩
  have hB' := hB
  rw [World.size_alloc] at hB'
  have Ho := Lib.hid (ho0.below hb)
  have Hb := Lib.hid (hb0.trans (hb.mono hb0.size))
  have hs : w.heap.size < v1.heap.size := by simp at hs'; omega
  clear ho0 hb0 hs'
  have He1 := Lib.hid (elB_wraps (b := w.heap.size) (k := 1) (v1 := .func (.func 199) #[] #[]) (v2 := .nilFunc) ⟨rfl, rfl⟩ hB' (by omega) (enters_of Tryz.func200 (by kernel_rfl) rfl) (fun a b => a + b) small1_any B.do_1)
  clear hB hB' hb
  go_wp2_with (refine wpList_insert_at rfl (.tmp 1) (.const (.int .i64 1)) (.tmp 2) rfl Ho.out K (ek_int_inj .i64) Tryz.underlying215 1 (.agg #[.func (.func 246) #[] #[.pointer (some ⟨w.heap.size + 1, 0, none⟩)], .func (.func 199) #[] #[], .nilFunc]) (keyOf_int_mk Tryz.underlying3 rfl) rfl rfl rfl ?_; intro w1 hg hsz hput; replace Ho := Lib.hid (OpsAt.put hg hput (He1.out)); replace Hb := Lib.hid (below_put Hb.out (Nat.le_refl _) hg); have hs1 : w.heap.size < w1.heap.size := (by rw [hsz]; exact hs); replace hs := hs1; clear hg hput hsz hs1)
  refine (wraps_any _ _ _).mono ?_
  rintro e v2 ⟨rfl, hB, hb, hs'⟩
  have hB' := hB
  replace Ho := Lib.hid (Ho.out.below hb)
  replace Hb := Lib.hid (Hb.out.trans (hb.mono Hb.out.size))
  have hne := hs
  replace hs : w.heap.size < v2.heap.size := Nat.lt_trans hs hs'
  clear hs'
  have He2 := Lib.hid (elB_wraps (b := w.heap.size) (k := 2) (v1 := .func (.func 201) #[] #[]) (v2 := .nilFunc) ⟨rfl, rfl⟩ hB' hne (enters_of Tryz.func202 (by kernel_rfl) rfl) (fun a b => a - b) small2_any B.do_2)
  clear hB hB' hb hne
  go_wp2_with (refine wpList_insert_at rfl (.tmp 1) (.const (.int .i64 2)) (.tmp 3) rfl Ho.out K (ek_int_inj .i64) Tryz.underlying215 2 (.agg #[.func (.func 246) #[] #[.pointer (some ⟨w1.heap.size, 0, none⟩)], .func (.func 201) #[] #[], .nilFunc]) (keyOf_int_mk Tryz.underlying3 rfl) rfl rfl rfl ?_; intro w2 hg hsz hput; replace Ho := Lib.hid (OpsAt.put hg hput (He2.out)); replace Hb := Lib.hid (below_put Hb.out (Nat.le_refl _) hg); have hs2 : w.heap.size < w2.heap.size := (by rw [hsz]; exact hs); replace hs := hs2; clear hg hput hsz hs2)
  refine (wraps_any _ _ _).mono ?_
  rintro e v3 ⟨rfl, hB, hb, hs'⟩
  have hB' := hB
  replace Ho := Lib.hid (Ho.out.below hb)
  replace Hb := Lib.hid (Hb.out.trans (hb.mono Hb.out.size))
  have hne := hs
  replace hs : w.heap.size < v3.heap.size := Nat.lt_trans hs hs'
  clear hs'
  have He3 := Lib.hid (elB_wraps (b := w.heap.size) (k := 3) (v1 := .func (.func 203) #[] #[]) (v2 := .nilFunc) ⟨rfl, rfl⟩ hB' hne (enters_of Tryz.func205 (by kernel_rfl) rfl) (fun a b => a * b) small3_any B.do_3)
  clear hB hB' hb hne
  go_wp2_with (first | (refine wpList_insert_at rfl (.tmp 1) (.const (.int .i64 3)) (.tmp 4) rfl Ho.out K (ek_int_inj .i64) Tryz.underlying215 3 (.agg #[.func (.func 246) #[] #[.pointer (some ⟨w2.heap.size, 0, none⟩)], .func (.func 203) #[] #[], .nilFunc]) (keyOf_int_mk Tryz.underlying3 rfl) rfl rfl rfl ?_; intro w3 hg hsz hput; replace Ho := Lib.hid (OpsAt.put hg hput (He3.out)); replace Hb := Lib.hid (below_put Hb.out (Nat.le_refl _) hg); have hs3 : w.heap.size < w3.heap.size := (by rw [hsz]; exact hs); replace hs := hs3; clear hg hput hsz hs3) | (refine wpList_insert_at rfl (.tmp 1) (.const (.int .i64 4)) (.tmp 5) rfl Ho.out K (ek_int_inj .i64) Tryz.underlying215 4 (.agg #[.func (.func 206) #[] #[], .nilFunc, .func (.func 207) #[] #[]]) (keyOf_int_mk Tryz.underlying3 rfl) rfl rfl rfl ?_; intro w4 hg hsz hput; replace Ho := Lib.hid (OpsAt.put hg hput (elB_fn (b := w.heap.size) (k := 4) (v1 := .nilFunc) (v2 := .func (.func 207) #[] #[]) ⟨rfl, rfl⟩ (enters_of Tryz.func206 (by kernel_rfl) rfl) does4)); replace Hb := Lib.hid (below_put Hb.out (Nat.le_refl _) hg); have hs4 : w.heap.size < w4.heap.size := (by rw [hsz]; exact hs); replace hs := hs4; clear hg hput hsz hs4) | (refine wpList_insert_at rfl (.tmp 1) (.const (.int .i64 5)) (.tmp 6) rfl Ho.out K (ek_int_inj .i64) Tryz.underlying215 5 (.agg #[.func (.func 208) #[] #[], .nilFunc, .nilFunc]) (keyOf_int_mk Tryz.underlying3 rfl) rfl rfl rfl ?_; intro w5 hg hsz hput; replace Ho := Lib.hid (OpsAt.put hg hput (elB_fn (b := w.heap.size) (k := 5) (v1 := .nilFunc) (v2 := .nilFunc) ⟨rfl, rfl⟩ (enters_of Tryz.func208 (by kernel_rfl) rfl) does5)); replace Hb := Lib.hid (below_put Hb.out (Nat.le_refl _) hg); have hs5 : w.heap.size < w5.heap.size := (by rw [hsz]; exact hs); replace hs := hs5; clear hg hput hsz hs5) | (refine wpList_insert_at rfl (.tmp 1) (.const (.int .i64 6)) (.tmp 7) rfl Ho.out K (ek_int_inj .i64) Tryz.underlying215 6 (.agg #[.func (.func 209) #[] #[], .nilFunc, .func (.func 211) #[] #[]]) (keyOf_int_mk Tryz.underlying3 rfl) rfl rfl rfl ?_; intro w6 hg hsz hput; replace Ho := Lib.hid (OpsAt.put hg hput (elB_fn (b := w.heap.size) (k := 6) (v1 := .nilFunc) (v2 := .func (.func 211) #[] #[]) ⟨rfl, rfl⟩ (enters_of Tryz.func209 (by kernel_rfl) rfl) does6)); replace Hb := Lib.hid (below_put Hb.out (Nat.le_refl _) hg); have hs6 : w.heap.size < w6.heap.size := (by rw [hsz]; exact hs); replace hs := hs6; clear hg hput hsz hs6) | (refine wpList_insert_at rfl (.tmp 1) (.const (.int .i64 7)) (.tmp 8) rfl Ho.out K (ek_int_inj .i64) Tryz.underlying215 7 (.agg #[.func (.func 212) #[] #[], .nilFunc, .nilFunc]) (keyOf_int_mk Tryz.underlying3 rfl) rfl rfl rfl ?_; intro w7 hg hsz hput; replace Ho := Lib.hid (OpsAt.put hg hput (elB_fn (b := w.heap.size) (k := 7) (v1 := .nilFunc) (v2 := .nilFunc) ⟨rfl, rfl⟩ (enters_of Tryz.func212 (by kernel_rfl) rfl) does7)); replace Hb := Lib.hid (below_put Hb.out (Nat.le_refl _) hg); have hs7 : w.heap.size < w7.heap.size := (by rw [hsz]; exact hs); replace hs := hs7; clear hg hput hsz hs7))
  refine (plain_any _ _).mono ?_
  rintro e v8 ⟨rfl, hB, hb, hs'⟩
  have hB' := hB
  replace Ho := Lib.hid (Ho.out.below hb)
  replace Hb := Lib.hid (Hb.out.trans (hb.mono Hb.out.size))
  have hne := hs
  replace hs : w.heap.size < v8.heap.size := Nat.lt_trans hs hs'
  clear hs'
  have He8 := Lib.hid (elB_plain (b := w.heap.size) (k := 8) (v1 := .nilFunc) (v2 := .nilFunc) ⟨rfl, rfl⟩ hB' hne (enters_of Tryz.func214 (by kernel_rfl) rfl) (fun a b => ((a.toNat &&& b.toNat : Nat) : Int)) small8_any B.do_8)
  clear hB hB' hb hne
  go_wp2_with (refine wpList_insert_at rfl (.tmp 1) (.const (.int .i64 8)) (.tmp 9) rfl Ho.out K (ek_int_inj .i64) Tryz.underlying215 8 (.agg #[.func (.func 247) #[] #[.pointer (some ⟨w7.heap.size, 0, none⟩)], .nilFunc, .nilFunc]) (keyOf_int_mk Tryz.underlying3 rfl) rfl rfl rfl ?_; intro w8 hg hsz hput; replace Ho := Lib.hid (OpsAt.put hg hput (He8.out)); replace Hb := Lib.hid (below_put Hb.out (Nat.le_refl _) hg); have hs8 : w.heap.size < w8.heap.size := (by rw [hsz]; exact hs); replace hs := hs8; clear hg hput hsz hs8)
  refine (plain_any _ _).mono ?_
  rintro e v9 ⟨rfl, hB, hb, hs'⟩
  have hB' := hB
  replace Ho := Lib.hid (Ho.out.below hb)
  replace Hb := Lib.hid (Hb.out.trans (hb.mono Hb.out.size))
  have hne := hs
  replace hs : w.heap.size < v9.heap.size := Nat.lt_trans hs hs'
  clear hs'
  have He9 := Lib.hid (elB_plain (b := w.heap.size) (k := 9) (v1 := .nilFunc) (v2 := .nilFunc) ⟨rfl, rfl⟩ hB' hne (enters_of Tryz.func215 (by kernel_rfl) rfl) (fun a b => ((a.toNat ||| b.toNat : Nat) : Int)) small9_any B.do_9)
  clear hB hB' hb hne
  go_wp2_with (refine wpList_insert_at rfl (.tmp 1) (.const (.int .i64 9)) (.tmp 10) rfl Ho.out K (ek_int_inj .i64) Tryz.underlying215 9 (.agg #[.func (.func 247) #[] #[.pointer (some ⟨w8.heap.size, 0, none⟩)], .nilFunc, .nilFunc]) (keyOf_int_mk Tryz.underlying3 rfl) rfl rfl rfl ?_; intro w9 hg hsz hput; replace Ho := Lib.hid (OpsAt.put hg hput (He9.out)); replace Hb := Lib.hid (below_put Hb.out (Nat.le_refl _) hg); have hs9 : w.heap.size < w9.heap.size := (by rw [hsz]; exact hs); replace hs := hs9; clear hg hput hsz hs9)
  refine (plain_any _ _).mono ?_
  rintro e v10 ⟨rfl, hB, hb, hs'⟩
  have hB' := hB
  replace Ho := Lib.hid (Ho.out.below hb)
  replace Hb := Lib.hid (Hb.out.trans (hb.mono Hb.out.size))
  have hne := hs
  replace hs : w.heap.size < v10.heap.size := Nat.lt_trans hs hs'
  clear hs'
  have He10 := Lib.hid (elB_plain (b := w.heap.size) (k := 10) (v1 := .nilFunc) (v2 := .nilFunc) ⟨rfl, rfl⟩ hB' hne (enters_of Tryz.func216 (by kernel_rfl) rfl) (fun a b => ((a.toNat ^^^ b.toNat : Nat) : Int)) small10_any B.do_10)
  clear hB hB' hb hne
  go_wp2_with (first | (refine wpList_insert_at rfl (.tmp 1) (.const (.int .i64 10)) (.tmp 11) rfl Ho.out K (ek_int_inj .i64) Tryz.underlying215 10 (.agg #[.func (.func 247) #[] #[.pointer (some ⟨w9.heap.size, 0, none⟩)], .nilFunc, .nilFunc]) (keyOf_int_mk Tryz.underlying3 rfl) rfl rfl rfl ?_; intro w10 hg hsz hput; replace Ho := Lib.hid (OpsAt.put hg hput (He10.out)); replace Hb := Lib.hid (below_put Hb.out (Nat.le_refl _) hg); have hs10 : w.heap.size < w10.heap.size := (by rw [hsz]; exact hs); replace hs := hs10; clear hg hput hsz hs10) | (refine wpList_insert_at rfl (.tmp 1) (.const (.int .i64 11)) (.tmp 12) rfl Ho.out K (ek_int_inj .i64) Tryz.underlying215 11 (.agg #[.func (.func 217) #[] #[], .func (.func 218) #[] #[], .nilFunc]) (keyOf_int_mk Tryz.underlying3 rfl) rfl rfl rfl ?_; intro w11 hg hsz hput; replace Ho := Lib.hid (OpsAt.put hg hput (elB_fn (b := w.heap.size) (k := 11) (v1 := .func (.func 218) #[] #[]) (v2 := .nilFunc) ⟨rfl, rfl⟩ (enters_of Tryz.func217 (by kernel_rfl) rfl) does11)); replace Hb := Lib.hid (below_put Hb.out (Nat.le_refl _) hg); have hs11 : w.heap.size < w11.heap.size := (by rw [hsz]; exact hs); replace hs := hs11; clear hg hput hsz hs11) | (refine wpList_insert_at rfl (.tmp 1) (.const (.int .i64 12)) (.tmp 13) rfl Ho.out K (ek_int_inj .i64) Tryz.underlying215 12 (.agg #[.func (.func 219) #[] #[], .nilFunc, .func (.func 220) #[] #[]]) (keyOf_int_mk Tryz.underlying3 rfl) rfl rfl rfl ?_; intro w12 hg hsz hput; replace Ho := Lib.hid (OpsAt.put hg hput (elB_fn (b := w.heap.size) (k := 12) (v1 := .nilFunc) (v2 := .func (.func 220) #[] #[]) ⟨rfl, rfl⟩ (enters_of Tryz.func219 (by kernel_rfl) rfl) does12)); replace Hb := Lib.hid (below_put Hb.out (Nat.le_refl _) hg); have hs12 : w.heap.size < w12.heap.size := (by rw [hsz]; exact hs); replace hs := hs12; clear hg hput hsz hs12) | (refine wpList_insert_at rfl (.tmp 1) (.const (.int .i64 13)) (.tmp 14) rfl Ho.out K (ek_int_inj .i64) Tryz.underlying215 13 (.agg #[.func (.func 221) #[] #[], .nilFunc, .func (.func 223) #[] #[]]) (keyOf_int_mk Tryz.underlying3 rfl) rfl rfl rfl ?_; intro w13 hg hsz hput; replace Ho := Lib.hid (OpsAt.put hg hput (elB_fn (b := w.heap.size) (k := 13) (v1 := .nilFunc) (v2 := .func (.func 223) #[] #[]) ⟨rfl, rfl⟩ (enters_of Tryz.func221 (by kernel_rfl) rfl) does13)); replace Hb := Lib.hid (below_put Hb.out (Nat.le_refl _) hg); have hs13 : w.heap.size < w13.heap.size := (by rw [hsz]; exact hs); replace hs := hs13; clear hg hput hsz hs13))
  go_ret
  exact ⟨_, rfl, Ho.out, ops_get, Hb.out⟩
end Go.Proofs.YtbiopedpceddeaaGreatDoor
end
section
namespace Go.Proofs.YtbiopedpceddeaaGreatDoor
open Go.RowKit Go.Maps Go.Shelf
set_option linter.unusedVariables false
set_option linter.unusedSimpArgs false

theorem zeroOp (w : World) : (zeroValue 164).run Tryz.prog w = .ok (.agg #[.nilFunc, .nilFunc, .nilFunc]) w := by kernel_rfl

/-- two words, as a slice -/
theorem fits_two (n a b : Int) (p : Nat) (w : World) (h0 : w.cell? ⟨p, 0, none⟩ = some (.int .u32 a)) (h1 : w.cell? ⟨p, 1, none⟩ = some (.int .u32 b)) :
    Calls Tryz.prog 102 #[.int .i64 n, .slice (some ⟨p, 0, none⟩) 2 2] w fun e w' => e = .returned (.bool (B.isW n a && B.isW n b)) ∧ w = w' := by
  have hs : SlAt (IntR .u32) w (some ⟨p, 0, none⟩) 2 [a, b] := by
    refine ⟨rfl, by omega, fun k x hx => ?_⟩
    have hlt := World.block_lt_of_cell? _ _ h0
    match k, hx with
    | 0, hx => cases hx; exact ⟨_, _, _, rfl, hlt, h0, rfl⟩
    | 1, hx => cases hx; exact ⟨_, _, _, rfl, hlt, h1, rfl⟩
    | k + 2, hx => simp at hx
  refine (fits_any n _ 2 2 [a, b] w hs).mono fun e w' ⟨he, hw⟩ => ⟨he.trans (ret_bool ?_), hw⟩
  simp only [B.isW, List.all_cons, List.all_nil, Bool.and_true]
  cases B.isWd n <;> simp

/-- the store of three cells into a block above which what is read lies -/
theorem elB_store {b : Nat} {w w' : World} {k : Int} {u : Value} {x : Unit} (h : ElB b w k u x) (hs : w.heap.size ≤ w'.heap.size) (hb : ∀ B0, b < B0 → B0 < w.heap.size → w'.heap[B0]? = w.heap[B0]?) : ElB b w' k u x := by
  obtain ⟨f, caps, v1, v2, own, hu, hv, he, ho, hd⟩ := h
  exact ⟨f, caps, v1, v2, own, hu, hv, he, fun B0 hB => ⟨Nat.lt_of_lt_of_le (ho B0 hB).1 hs, (ho B0 hB).2⟩, fun W hW => hd W fun B0 hB => (hW B0 hB).trans (hb B0 (ho B0 hB).2 (ho B0 hB).1)⟩
theorem heap_set3 (w : World) (p B0 : Nat) (u0 u1 u2 : Value) (h : B0 ≠ p) : (((w.setCell ⟨p, 0, none⟩ u0).setCell ⟨p, 1, none⟩ u1).setCell ⟨p, 2, none⟩ u2).heap[B0]? = w.heap[B0]? := by
  rw [Below.heap_setCell _ _ _ _ h, Below.heap_setCell _ _ _ _ h, Below.heap_setCell _ _ _ _ h]
set_option maxRecDepth 100000 in
set_option maxHeartbeats 2000000 in
theorem asked_any (op n a b : Int) (w : World) (hop : (Lit.int .i64 op).wf = true) : Calls Tryz.prog 106 #[.int .i64 op, .int .i64 n, .int .u32 a, .int .u32 b] w fun e w' =>
    ∃ u : Value, e = .returned (.tuple #[u, .bool (B.okOp op n a b)]) ∧ Below w.heap.size w w' ∧ w.heap.size < w'.heap.size ∧ ((B.okOp op n a b = true ∧ ∃ bm, ElB bm w' op u ()) ∨ B.okOp op n a b = false ∧ ∃ u0 u1 u2, u = .agg #[u0, u1, u2] ∧ u0.oneCell' = true ∧ u1.oneCell' = true ∧ u2.oneCell' = true) := by
  have HO := Lib.hid (fun W => operations_any W)
  have HF := Lib.hid (fun p W h0 h1 => fits_two n a b p W h0 h1)
  have K := int_keyed Tryz.underlying3
  have facts : ∀ w1 : World, Below (w.alloc (.cells #[.nilFunc, .nilFunc, .nilFunc] 164)).heap.size (w.alloc (.cells #[.nilFunc, .nilFunc, .nilFunc] 164)) w1 → 
      w1.cell? ⟨w.heap.size, 0, none⟩ = some .nilFunc ∧ w1.cell? ⟨w.heap.size, 1, none⟩ = some .nilFunc ∧ w1.cell? ⟨w.heap.size, 2, none⟩ = some .nilFunc ∧ (∀ j, w1.frozen? ⟨w.heap.size, j, none⟩ = false) ∧ w.heap.size < w1.heap.size := fun w1 hb =>
    ⟨(hb.cell (p := ⟨w.heap.size, 0, none⟩) (by simp)).trans (by rw [cell_of_row _ _ _ _ _ (0, 0) (heap_alloc_new w _)]; rfl), (hb.cell (p := ⟨w.heap.size, 1, none⟩) (by simp)).trans (by rw [cell_of_row _ _ _ _ _ (0, 0) (heap_alloc_new w _)]; rfl),
      (hb.cell (p := ⟨w.heap.size, 2, none⟩) (by simp)).trans (by rw [cell_of_row _ _ _ _ _ (0, 0) (heap_alloc_new w _)]; rfl), fun j => (hb.frozen (p := ⟨w.heap.size, j, none⟩) (by simp)).trans (by simp [go_sem]), by have := hb.size; simp at this; omega⟩
  have Hfacts := Lib.hid facts; clear facts
  by_cases hk : 1 ≤ op ∧ op ≤ 13
  · go_enter Tryz.func106, Tryz.ntmps106
    go_wp2_with fail
    refine (HO.out _).mono ?_
    rintro e w1 ⟨l, rfl, ho, hget, hb⟩
    obtain ⟨u, hl0, hlook, hu⟩ := MapAt.lookup ho K (ek_int_inj .i64) Tryz.underlying215 (zeroOp w1) (k := op) (keyOf_int_mk Tryz.underlying3 hop)
    rw [World.size_alloc] at hlook
    rw [hget op, if_pos hk] at hlook hu
    rw [show (some ()).isSome = true from rfl] at hlook
    have hel : ElB (w.alloc (.cells #[.nilFunc, .nilFunc, .nilFunc] 164)).heap.size w1 op u () := by
      rcases hu with ⟨h, _⟩ | ⟨_, _, h⟩
      · cases h
      · exact h
    have Hel := Lib.hid hel
    obtain ⟨f, caps, v1, v2, own, rfl, ⟨hv1, hv2⟩, hr0⟩ := hel
    have hst1 : ∀ W A m, (store A v1 m).run Tryz.prog W = stored Tryz.prog W A v1 m := fun W A m => run_store _ W A v1 m hv1
    have hst2 : ∀ W A m, (store A v2 m).run Tryz.prog W = stored Tryz.prog W A v2 m := fun W A m => run_store _ W A v2 m hv2
    have HV := Lib.hid (And.intro hv1 hv2)
    clear hv1 hv2 hu hget ho hl0 hr0
    obtain ⟨hc0, hc1, hc2, hf0, hsz⟩ := Hfacts.out _ hb
    have Hb := Lib.hid hb; clear hb
    have hret : ∀ (a' : Act) (W : World), a'.tmps.getD 8 undef = .pointer (some ⟨w.heap.size, 0, none⟩) → a'.tmps.getD 9 undef = .bool (B.isW n a && B.isW n b) → a'.defers = [] →
        W = (((((w1.setCell ⟨w.heap.size, 0, none⟩ (.func (.func f) #[] caps)).setCell ⟨w.heap.size, 1, none⟩ v1).setCell ⟨w.heap.size, 2, none⟩ v2).alloc (.cells #[.func (.func f) #[] caps, v1, v2] 164)).alloc (.cells #[.int .u32 a, .int .u32 b] 26)).drew →
        bodyPost Tryz.prog Tryz.f106 (fun e w' => ∃ u : Value, e = .returned (.tuple #[u, .bool (B.okOp op n a b)]) ∧ Below w.heap.size w w' ∧ w.heap.size < w'.heap.size ∧ ((B.okOp op n a b = true ∧ ∃ bm, ElB bm w' op u ()) ∨ B.okOp op n a b = false ∧ ∃ u0 u1 u2, u = .agg #[u0, u1, u2] ∧ u0.oneCell' = true ∧ u1.oneCell' = true ∧ u2.oneCell' = true)) Exit.ret a' W := by
      intro a' W h8 h9 hd hW
      subst hW
      rw [Array.getD_eq_getD_getElem?] at h8 h9
      have hbig : Below w.heap.size w (((((w1.setCell ⟨w.heap.size, 0, none⟩ (.func (.func f) #[] caps)).setCell ⟨w.heap.size, 1, none⟩ v1).setCell ⟨w.heap.size, 2, none⟩ v2).alloc (.cells #[.func (.func f) #[] caps, v1, v2] 164)).alloc (.cells #[.int .u32 a, .int .u32 b] 26)).drew :=
        (((((((Below.refl _ _).alloc (Nat.le_refl _) _).trans (Hb.out.mono (by simp))).setCell (p := ⟨w.heap.size, 0, none⟩) (Nat.le_refl _) _).setCell (p := ⟨w.heap.size, 1, none⟩) (Nat.le_refl _) _).setCell (p := ⟨w.heap.size, 2, none⟩) (Nat.le_refl _) _).alloc (by simp; omega) _).alloc (by simp; omega) _ |>.drew
      refine bodyPost_ret (v := .tuple #[.agg #[.func (.func f) #[] caps, v1, v2], .bool (B.isW n a && B.isW n b)]) ?_ hd ⟨.agg #[.func (.func f) #[] caps, v1, v2], ?_, hbig, by simp; omega, ?_⟩
      · simp [results, Tryz.results106, go_sem, h8, h9, hc0, hc1, hc2, hf0, hsz]
      · have e : B.okOp op n a b = (B.isW n a && B.isW n b) := by unfold B.okOp; simp [hk.1, hk.2]
        rw [e]
      · cases hok : B.okOp op n a b
        · exact .inr ⟨rfl, _, _, _, rfl, rfl, HV.out.1, HV.out.2⟩
        · refine .inl ⟨rfl, (w.alloc (.cells #[.nilFunc, .nilFunc, .nilFunc] 164)).heap.size, ?_⟩
          refine elB_store Hel.out (by simp; omega) fun B0 h1 h2 => ?_
          rw [World.size_alloc] at h1
          show (World.alloc (World.alloc (World.setCell (World.setCell (World.setCell w1 ⟨w.heap.size, 0, none⟩ _) ⟨w.heap.size, 1, none⟩ _) ⟨w.heap.size, 2, none⟩ _) _) _).heap[B0]? = w1.heap[B0]?
          rw [Below.heap_alloc _ _ _ (by simp; omega), Below.heap_alloc _ _ _ (by simp; omega), heap_set3 _ _ _ _ _ _ (by omega)]
    have Hret := Lib.hid hret; clear hret
    go_wp2_with fail
    go_region_with ((go_at_call 102; refine Calls.mono (HF.out _ _ ?_ ?_) ?_; go_simp; go_simp; rintro e w5 ⟨rfl, rfl⟩))
    all_goals go_wp2
    all_goals exact Hret.out _ _ rfl rfl rfl rfl
  · go_enter Tryz.func106, Tryz.ntmps106
    go_wp2_with fail
    refine (HO.out _).mono ?_
    rintro e w1 ⟨l, rfl, ho, hget, hb⟩
    obtain ⟨u, hl0, hlook, hu⟩ := MapAt.lookup ho K (ek_int_inj .i64) Tryz.underlying215 (zeroOp w1) (k := op) (keyOf_int_mk Tryz.underlying3 hop)
    rw [World.size_alloc] at hlook
    rw [hget op, if_neg hk] at hlook hu
    rw [show (none : Option Unit).isSome = false from rfl] at hlook
    obtain rfl : u = .agg #[.nilFunc, .nilFunc, .nilFunc] := by
      rcases hu with ⟨_, h⟩ | ⟨_, h, _⟩
      · exact h
      · cases h
    clear hu hget ho hl0
    obtain ⟨hc0, hc1, hc2, hf0, hsz⟩ := Hfacts.out _ hb
    have Hb := Lib.hid hb; clear hb
    have Hk := Lib.hid hk; clear hk
    go_wp2_with fail
    go_big_region
    all_goals go_wp2
    all_goals
      have hbig : Below w.heap.size w ((((w1.setCell ⟨w.heap.size, 0, none⟩ .nilFunc).setCell ⟨w.heap.size, 1, none⟩ .nilFunc).setCell ⟨w.heap.size, 2, none⟩ .nilFunc).alloc (.cells #[.nilFunc, .nilFunc, .nilFunc] 164)).drew :=
        (((((((Below.refl _ _).alloc (Nat.le_refl _) _).trans (Hb.out.mono (by simp))).setCell (p := ⟨w.heap.size, 0, none⟩) (Nat.le_refl _) _).setCell (p := ⟨w.heap.size, 1, none⟩) (Nat.le_refl _) _).setCell (p := ⟨w.heap.size, 2, none⟩) (Nat.le_refl _) _).alloc (by simp; omega) _).drew
      refine bodyPost_ret (v := .tuple #[.agg #[.nilFunc, .nilFunc, .nilFunc], .bool false]) ?_ rfl ⟨.agg #[.nilFunc, .nilFunc, .nilFunc], ?_, hbig, by simp; omega, ?_⟩
      · simp [results, Tryz.results106, go_sem, hc0, hc1, hc2, hf0, hsz]
      · have e : B.okOp op n a b = false := by
          have h1 : (decide (1 ≤ op) && decide (op ≤ 13)) = false := by
            have := Hk.out
            by_cases h : 1 ≤ op
            · have : ¬ op ≤ 13 := fun h' => this ⟨h, h'⟩
              simp [this]
            · simp [h]
          unfold B.okOp; rw [h1]; rfl
        rw [e]
      · refine .inr ⟨?_, _, _, _, rfl, rfl, rfl, rfl⟩
        have h1 : (decide (1 ≤ op) && decide (op ≤ 13)) = false := by
          have := Hk.out
          by_cases h : 1 ≤ op
          · have : ¬ op ≤ 13 := fun h' => this ⟨h, h'⟩
            simp [this]
          · simp [h]
        unfold B.okOp; rw [h1]; rfl
end Go.Proofs.YtbiopedpceddeaaGreatDoor
end
section
namespace Go.Proofs.YtbiopedpceddeaaGreatDoor
open Go.RowKit Go.Maps Go.Shelf
set_option linter.unusedVariables false

theorem ret_we {a a' b b' : Int} (h : a = a') (h' : b = b') : Ending.returned (.tuple #[.int .u32 a, .int .i64 b]) = .returned (.tuple #[.int .u32 a', .int .i64 b']) := by rw [h, h']

set_option maxRecDepth 100000 in
set_option maxHeartbeats 2000000 in
theorem total_any (op n a b : Int) (w : World) (hop : (Lit.int .i64 op).wf = true) (ha : 0 ≤ a) (hb : 0 ≤ b) : Calls Tryz.prog 50 #[.int .i64 op, .int .i64 n, .int .u32 a, .int .u32 b] w fun e w' =>
    e = .returned (.tuple #[.int .u32 (B.total op n a b).1, .int .i64 (B.total op n a b).2]) ∧ Below w.heap.size w w' := by
  have HA := Lib.hid (asked_any op n a b w hop)
  cases hok : B.okOp op n a b
  · have ht : B.total op n a b = (0, 1) := by unfold B.total; rw [if_neg (by rw [hok]; simp)]
    rw [hok] at HA
    rw [ht]
    clear ht hok
    go_enter Tryz.func50, Tryz.ntmps50
    go_wp2_with fail
    refine HA.out.mono ?_
    rintro e w1 ⟨u, rfl, hbw, hsz, hcase⟩
    obtain ⟨u0, u1, u2, rfl, h0, h1, h2⟩ : ∃ u0 u1 u2, u = .agg #[u0, u1, u2] ∧ u0.oneCell' = true ∧ u1.oneCell' = true ∧ u2.oneCell' = true := by
      rcases hcase with ⟨h, _⟩ | ⟨_, h⟩
      · cases h
      · exact h
    have hst0 : ∀ W A m, (store A u0 m).run Tryz.prog W = stored Tryz.prog W A u0 m := fun W A m => run_store _ W A u0 m h0
    have hst1 : ∀ W A m, (store A u1 m).run Tryz.prog W = stored Tryz.prog W A u1 m := fun W A m => run_store _ W A u1 m h1
    have hst2 : ∀ W A m, (store A u2 m).run Tryz.prog W = stored Tryz.prog W A u2 m := fun W A m => run_store _ W A u2 m h2
    clear h0 h1 h2 hcase
    go_wp2
    go_ret2
    exact ⟨rfl, hbw.alloc hbw.size _⟩
  · have ht : B.total op n a b = (B.full op n a b, 0) := by unfold B.total; rw [if_pos hok]
    have hw : B.Wds n a b := by
      unfold B.okOp at hok
      simp only [Bool.and_eq_true, B.isW_iff, decide_eq_true_eq] at hok
      obtain ⟨⟨_, h1, h2, h3⟩, _, _, h4⟩ := hok
      exact ⟨h1, h2, ha, h3, hb, h4⟩
    rw [hok] at HA
    have Ht := Lib.hid ht; clear ht
    have Hok := Lib.hid hok; clear hok
    have Hw := Lib.hid hw; clear hw
    rw [Ht.out]
    go_enter Tryz.func50, Tryz.ntmps50
    go_wp2_with fail
    refine HA.out.mono ?_
    rintro e w1 ⟨u, rfl, hbw, hsz, hcase⟩
    obtain ⟨bm, hel⟩ : ∃ bm, ElB bm w1 op u () := by
      rcases hcase with ⟨_, h⟩ | ⟨h, _⟩
      · exact h
      · cases h
    obtain ⟨f, caps, v1, v2, own, rfl, ⟨hv1, hv2⟩, eg, ho, hd⟩ := hel
    have hst1 : ∀ W A m, (store A v1 m).run Tryz.prog W = stored Tryz.prog W A v1 m := fun W A m => run_store _ W A v1 m hv1
    have hst2 : ∀ W A m, (store A v2 m).run Tryz.prog W = stored Tryz.prog W A v2 m := fun W A m => run_store _ W A v2 m hv2
    have con := hd (w1.alloc (.cells #[.func (.func f) #[] caps, v1, v2] 164)) (fun B0 hB => Below.heap_alloc _ _ _ (ho B0 hB).1) n a b Hw.out
    have Hcon := Lib.hid con; clear con
    clear hv1 hv2 hcase ho hd
    go_wp2_with fail
    refine Hcon.out.mono ?_
    rintro e w2 ⟨rfl, hdr⟩
    go_wp2
    go_ret2
    exact ⟨rfl, (hbw.alloc hbw.size _).dr hdr⟩
end Go.Proofs.YtbiopedpceddeaaGreatDoor
end
section
namespace Go.Proofs.YtbiopedpceddeaaGreatDoor.B

theorem tmod_fix (x m : Int) (hm : 0 < m) : (if x.tmod m < 0 then x.tmod m + m else x.tmod m) = x % m := by
  have h := Int.tmod_eq_emod (a := x) (b := m)
  have h0 := Int.emod_nonneg x (show m ≠ 0 by omega)
  have h1 := Int.emod_lt_of_pos x hm
  have hn : (m.natAbs : Int) = m := by omega
  by_cases hx : 0 ≤ x ∨ m ∣ x
  · rw [if_pos hx] at h
    rw [h, if_neg (by omega)]; omega
  · rw [if_neg hx] at h
    rw [h, if_pos (by omega)]; omega

/-- a step of dividing by 2, rounding down -/
theorem half_neg (x : Int) : -((1 - x) / 2) = x / 2 := by omega
theorem half_step' (x : Int) (k : Nat) : x / 2 ^ k / 2 = x / 2 ^ (k + 1) := by
  rw [Int.pow_succ, ← Int.ediv_ediv_of_nonneg (Int.pow_nonneg (by decide))]

def bitN (x i : Nat) : Nat := x / 2 ^ i % 2
theorem bitN_lt (x i : Nat) : bitN x i < 2 := Nat.mod_lt _ (by decide)
theorem bitN_test (x i : Nat) : bitN x i = if x.testBit i then 1 else 0 := by
  unfold bitN
  rw [Nat.testBit_eq_decide_div_mod_eq]
  have : x / 2 ^ i % 2 = 0 ∨ x / 2 ^ i % 2 = 1 := by omega
  rcases this with h | h <;> simp [h]
theorem mod_succ (x i : Nat) : x % 2 ^ (i + 1) = x % 2 ^ i + bitN x i * 2 ^ i := by
  unfold bitN
  rw [Nat.pow_succ, Nat.mod_mul, Nat.mul_comm (2 ^ i)]
theorem bitN_and (a b i : Nat) : bitN (a &&& b) i = bitN a i * bitN b i := by
  simp only [bitN_test, Nat.testBit_and]
  cases a.testBit i <;> cases b.testBit i <;> rfl
theorem bitN_or (a b i : Nat) : bitN (a ||| b) i = max (bitN a i) (bitN b i) := by
  simp only [bitN_test, Nat.testBit_or]
  cases a.testBit i <;> cases b.testBit i <;> rfl
theorem bitN_xor (a b i : Nat) : bitN (a ^^^ b) i = (bitN a i + bitN b i) % 2 := by
  simp only [bitN_test, Nat.testBit_xor]
  cases a.testBit i <;> cases b.testBit i <;> rfl
/-- the bit as whole numbers reckon it -/
theorem bit_int (x : Int) (i : Nat) (h : 0 ≤ x) : x / 2 ^ i % 2 = (bitN x.toNat i : Int) := by
  unfold bitN
  obtain ⟨X, rfl⟩ := Int.eq_ofNat_of_zero_le h
  simp
theorem mod_eq {x : Nat} {n : Int} (h : (x : Int) < pw n) : x % 2 ^ n.toNat = x := by
  rw [pw_nat] at h
  exact Nat.mod_eq_of_lt (by omega)

/-- doubling modulo m, k times -/
theorem dbl_step (a m : Int) (k : Nat) : 2 * (a * 2 ^ k % m) % m = a * 2 ^ (k + 1) % m := by
  rw [Int.pow_succ, ← Int.mul_assoc, Int.mul_comm 2, Int.mul_emod, Int.emod_emod, ← Int.mul_emod]
end Go.Proofs.YtbiopedpceddeaaGreatDoor.B
end
