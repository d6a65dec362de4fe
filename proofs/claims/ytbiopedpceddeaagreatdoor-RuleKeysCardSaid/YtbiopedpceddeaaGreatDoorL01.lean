/- Merged: PlainB, Maps, B1, B2, B3, B4, B5, B6, B7, PlainB2. -/
import Derived.Test.YtbiopedpceddeaaGreatDoorL00
import Derived.Maps.Keyed
import Derived.Maps.OwnOps
import Derived.Carry
import Derived.ChangeMaps5
import Derived.Test.YtbiopedpceddeaaGreatDoorProg
import Derived.Laws.BitsAllLaws
import Derived.Laws.EntriesVeiled
import Derived.Shelf.Abstract
import Derived.Deep.RegionWith
import Derived.StillTailTactics
import Derived.BigRegion
set_option linter.unusedVariables false
set_option linter.unusedSimpArgs false
section
namespace Go.Proofs.YtbiopedpceddeaaGreatDoor.B
set_option linter.unusedVariables false
set_option linter.unusedSimpArgs false

/-- 2^n -/
def pw (n : Int) : Int := 2 ^ n.toNat
def isWd (n : Int) : Bool := decide (1 ≤ n) && decide (n ≤ 32)
def isW (n a : Int) : Bool := isWd n && decide (a < pw n)

theorem pw_pos (n : Int) : 0 < pw n := Int.pow_pos (by decide)
theorem pw_nat (n : Int) : pw n = ((2 ^ n.toNat : Nat) : Int) := by unfold pw; simp
theorem pw_mono {m n : Int} (h : m ≤ n) : pw m ≤ pw n := by
  rw [pw_nat, pw_nat]
  exact Int.ofNat_le.2 (Nat.pow_le_pow_right (by decide) (by omega))
theorem pw_32 : pw 32 = 4294967296 := by decide
theorem pw_le {n : Int} (h : n ≤ 32) : pw n ≤ 4294967296 := by rw [← pw_32]; exact pw_mono h
theorem pw_dvd {m n : Int} (h : m ≤ n) : pw m ∣ pw n := by
  unfold pw
  rw [show n.toNat = m.toNat + (n.toNat - m.toNat) by omega, Int.pow_add]
  exact Int.dvd_mul_right _ _
theorem mod_mod {n : Int} (x : Int) (h : n ≤ 32) : x % 4294967296 % pw n = x % pw n := by
  rw [← pw_32]; exact Int.emod_emod_of_dvd x (pw_dvd h)
theorem isWd_iff {n : Int} : isWd n = true ↔ 1 ≤ n ∧ n ≤ 32 := by unfold isWd; simp
theorem isW_iff {n a : Int} : isW n a = true ↔ 1 ≤ n ∧ n ≤ 32 ∧ a < pw n := by unfold isW; simp [isWd_iff, and_assoc]
section
end
end Go.Proofs.YtbiopedpceddeaaGreatDoor.B
end
section
namespace Go.Proofs.YtbiopedpceddeaaGreatDoor
open Go.RowKit Go.MapKept Go.Maps

namespace AL
variable {κ α : Type} [DecidableEq κ]
def get : List (κ × α) → κ → Option α
  | [], _ => none
  | p :: l, k => if p.1 = k then some p.2 else get l k
def put : List (κ × α) → κ → α → List (κ × α)
  | [], k, a => [(k, a)]
  | p :: l, k, a => if p.1 = k then (k, a) :: l else p :: put l k a
theorem get_none {l : List (κ × α)} {k : κ} (h : ∀ p ∈ l, p.1 ≠ k) : get l k = none := by
  induction l with
  | nil => rfl
  | cons p l ih => rw [get, if_neg (h p (by simp)), ih (fun q hq => h q (by simp [hq]))]
theorem get_some {l : List (κ × α)} {k : κ} {a : α} {j : Nat} (hd : (l.map Prod.fst).Nodup) (h : l[j]? = some (k, a)) : get l k = some a := by
  induction l generalizing j with
  | nil => simp at h
  | cons p l ih =>
    rw [List.map_cons, List.nodup_cons] at hd
    cases j with
    | zero => simp at h; subst h; simp [get]
    | succ j =>
      simp at h
      have hm : k ∈ l.map Prod.fst := List.mem_map.2 ⟨(k, a), List.mem_of_getElem? h, rfl⟩
      rw [get, if_neg (fun e => hd.1 (by rw [e]; exact hm))]
      exact ih hd.2 h
theorem put_none {l : List (κ × α)} {k : κ} (h : ∀ p ∈ l, p.1 ≠ k) (a : α) : put l k a = l ++ [(k, a)] := by
  induction l with
  | nil => rfl
  | cons p l ih => rw [put, if_neg (h p (by simp)), ih (fun q hq => h q (by simp [hq]))]; rfl
theorem put_some {l : List (κ × α)} {k : κ} {a0 : α} {j : Nat} (hd : (l.map Prod.fst).Nodup) (h : l[j]? = some (k, a0)) (a : α) : put l k a = l.set j (k, a) := by
  induction l generalizing j with
  | nil => simp at h
  | cons p l ih =>
    rw [List.map_cons, List.nodup_cons] at hd
    cases j with
    | zero => simp at h; subst h; simp [put]
    | succ j =>
      simp at h
      have hm : k ∈ l.map Prod.fst := List.mem_map.2 ⟨(k, a0), List.mem_of_getElem? h, rfl⟩
      rw [put, if_neg (fun e => hd.1 (by rw [e]; exact hm)), ih hd.2 h]
      rfl
theorem get_put_same (l : List (κ × α)) (k : κ) (a : α) : get (put l k a) k = some a := by
  induction l with
  | nil => simp [put, get]
  | cons p l ih => unfold put; split <;> simp_all [get]
theorem get_put_other (l : List (κ × α)) {k k' : κ} (a : α) (h : k' ≠ k) : get (put l k a) k' = get l k' := by
  induction l with
  | nil => simp [put, get, Ne.symm h]
  | cons p l ih =>
    unfold put
    split
    · rename_i e; simp [get, e, Ne.symm h]
    · simp only [get, ih]
theorem mem_put {l : List (κ × α)} {k : κ} {a : α} {p : κ × α} (h : p ∈ put l k a) : p ∈ l ∨ p = (k, a) := by
  induction l with
  | nil => simpa [put] using h
  | cons q l ih =>
    unfold put at h
    split at h
    · rcases List.mem_cons.1 h with h | h
      · exact .inr h
      · exact .inl (by simp [h])
    · rcases List.mem_cons.1 h with h | h
      · exact .inl (by simp [h])
      · rcases ih h with h | h
        · exact .inl (by simp [h])
        · exact .inr h
theorem length_put (l : List (κ × α)) (k : κ) (a : α) : (put l k a).length = if get l k = none then l.length + 1 else l.length := by
  induction l with
  | nil => simp [put, get]
  | cons p l ih =>
    unfold put get
    split
    · simp
    · simp only [List.length_cons, ih]; split <;> simp_all
end AL

def MapEnt {κ α : Type} (P : Program) (kt : TypeId) (ek : κ → Value) (R : World → κ → Value → α → Prop) (w : World) (es : Array MapEntry) (l : List (κ × α)) : Prop :=
  ∀ (i : Nat) (k : κ) (a : α), l[i]? = some (k, a) → ∃ e : MapEntry, es.toList[i]? = some e ∧ e.key = ek k ∧ R w k e.val a ∧ ∃ kl, keyOf P kt (ek k) = some kl

/-- Block b is a map that holds the association list l, in the order of its making: keys by ek, elements read by R. -/
def MapAt {κ α : Type} (P : Program) (kt : TypeId) (ek : κ → Value) (R : World → κ → Value → α → Prop) (w : World) (b : Nat) (l : List (κ × α)) : Prop :=
  ∃ (es : Array MapEntry) (clock : Nat), w.heap[b]? = some (.map es clock) ∧ Stamped es clock ∧ es.toList.length = l.length ∧
    MapEnt P kt ek R w es l

section
variable {κ α : Type} {P : Program} {kt et t : TypeId} {ek : κ → Value} {R : World → κ → Value → α → Prop} {w w' : World} {b : Nat} {l : List (κ × α)}

theorem MapAt.lt (h : MapAt P kt ek R w b l) : b < w.heap.size := by
  obtain ⟨es, clock, hb, _⟩ := h
  exact (Array.getElem?_eq_some_iff.1 hb).1

theorem MapAt.made (w : World) : MapAt P kt ek R (w.alloc (.map #[] 0)) w.heap.size [] :=
  ⟨#[], 0, heap_alloc_new w _, stamped_empty 0, by simp, by intro i k a h; simp at h⟩

/-- The map stays while its block stays, and its elements go on reading as they did. -/
theorem MapAt.keep {R' : World → κ → Value → α → Prop} (h : MapAt P kt ek R w b l) (hb : w'.heap[b]? = w.heap[b]?) (hR : ∀ k u a, R w k u a → R' w' k u a) : MapAt P kt ek R' w' b l := by
  obtain ⟨es, clock, h1, h2, h3, h4⟩ := h
  refine ⟨es, clock, hb.trans h1, h2, h3, fun i k a hi => ?_⟩
  obtain ⟨e, e1, e2, e3, e4⟩ := h4 i k a hi
  exact ⟨e, e1, e2, hR _ _ _ e3, e4⟩

theorem mapAt_entry {es : Array MapEntry} (hl : es.toList.length = l.length) {j : Nat} {e : MapEntry} (he : es.toList[j]? = some e) : ∃ k a, l[j]? = some (k, a) := by
  have hj : j < l.length := by rw [← hl]; exact (List.getElem?_eq_some_iff.1 he).1
  exact ⟨l[j].1, l[j].2, List.getElem?_eq_getElem hj⟩

theorem mapAt_nodup {es : Array MapEntry} {clock : Nat} (hs : Stamped es clock) (hl : es.toList.length = l.length)
    (h4 : MapEnt P kt ek R w es l) : (l.map Prod.fst).Nodup := by
  have hp := ((stamped_iff es clock).1 hs).2.2
  rw [List.Nodup, List.pairwise_map, List.pairwise_iff_getElem]
  intro i j hi hj hij e
  rw [List.pairwise_iff_getElem] at hp
  obtain ⟨ei, h1, h2, _⟩ := h4 i l[i].1 l[i].2 (List.getElem?_eq_getElem hi)
  obtain ⟨ej, h3, h5, _⟩ := h4 j l[j].1 l[j].2 (List.getElem?_eq_getElem hj)
  have := hp i j (by omega) (by omega) hij
  rw [List.getElem?_eq_getElem (by omega)] at h1 h3
  rw [Option.some.inj h1, Option.some.inj h3, h2, h5, e] at this
  exact this rfl

theorem MapAt.find (h : MapAt P kt ek R w b l) (K : Keyed P kt) (hinj : ∀ a b, ek a = ek b → a = b) {k : κ} {kl : Lit} (hkey : keyOf P kt (ek k) = some kl) :
    ∃ (es : Array MapEntry) (clock : Nat), w.heap[b]? = some (.map es clock) ∧ Stamped es clock ∧ es.toList.length = l.length ∧ (l.map Prod.fst).Nodup ∧
      MapEnt P kt ek R w es l ∧
      (((Instr.findKey kt (ek k) es.toList).run P w = .ok none w ∧ (∀ e ∈ es.toList, e.key ≠ ek k) ∧ ∀ p ∈ l, p.1 ≠ k) ∨
       ∃ j e a, (Instr.findKey kt (ek k) es.toList).run P w = .ok (some (j, e.val)) w ∧ es.toList[j]? = some e ∧ e.key = ek k ∧ l[j]? = some (k, a) ∧ R w k e.val a) := by
  obtain ⟨es, clock, hb, hs, hl, h4⟩ := h
  have hd := mapAt_nodup hs hl h4
  have hkeys : ∀ e ∈ es.toList, ∃ l, keyOf P kt e.key = some l := by
    intro e he
    obtain ⟨j, hj, rfl⟩ := List.mem_iff_getElem.1 he
    obtain ⟨k', a, hka⟩ := mapAt_entry hl (List.getElem?_eq_getElem hj)
    obtain ⟨e', h1, h2, _, kl', h5⟩ := h4 j k' a hka
    rw [List.getElem?_eq_getElem hj] at h1
    exact ⟨kl', by rw [Option.some.inj h1, h2]; exact h5⟩
  refine ⟨es, clock, hb, hs, hl, hd, h4, ?_⟩
  rcases K.find w hkey es.toList hkeys with ⟨h1, h2⟩ | ⟨j, e, h1, h2, h3⟩
  · refine .inl ⟨h1, h2, fun p hp e => ?_⟩
    obtain ⟨i, hi, rfl⟩ := List.mem_iff_getElem.1 hp
    obtain ⟨e', g1, g2, _⟩ := h4 i l[i].1 l[i].2 (List.getElem?_eq_getElem hi)
    exact h2 e' (List.mem_of_getElem? g1) (by rw [g2, e])
  · obtain ⟨k', a, hka⟩ := mapAt_entry hl h2
    obtain ⟨e', g1, g2, g3, _⟩ := h4 j k' a hka
    rw [h2] at g1
    obtain rfl := Option.some.inj g1
    obtain rfl : k' = k := hinj _ _ (by rw [← g2, h3])
    exact .inr ⟨j, e, a, h1, h2, h3, hka, g3⟩

variable [DecidableEq κ]

/-- 'm[k]'; the element type's zero value reads as a0. -/
theorem MapAt.lookup (h : MapAt P kt ek R w b l) (K : Keyed P kt) (hinj : ∀ a b, ek a = ek b → a = b) (ht : P.underlying t = some (.map kt et)) {z : Value} (hz : (zeroValue et).run P w = .ok z w) {k : κ} {kl : Lit} (hkey : keyOf P kt (ek k) = some kl) :
    ∃ u, (Instr.lookup t (.map (some b)) (ek k) false).run P w = .ok u w ∧ (Instr.lookup t (.map (some b)) (ek k) true).run P w = .ok (.tuple #[u, .bool (AL.get l k).isSome]) w ∧
      ((AL.get l k = none ∧ u = z) ∨ ∃ a, AL.get l k = some a ∧ R w k u a) := by
  obtain ⟨es, clock, hb, hs, hl, hd, h4, hf⟩ := h.find K hinj hkey
  rcases hf with ⟨h1, h2, h3⟩ | ⟨j, e, a, h1, h2, h3, hka, hR⟩
  · refine ⟨z, ?_, ?_, .inl ⟨AL.get_none h3, rfl⟩⟩
    · simp [Instr.lookup, run_underlying ht, MapKept.run_getObj_map hb, K.check w _ hkey, h1, hz, Result.andThen]
    · simp [Instr.lookup, run_underlying ht, MapKept.run_getObj_map hb, K.check w _ hkey, h1, hz, Result.andThen, AL.get_none h3]
  · refine ⟨e.val, ?_, ?_, .inr ⟨a, AL.get_some hd hka, hR⟩⟩
    · simp [Instr.lookup, run_underlying ht, MapKept.run_getObj_map hb, K.check w _ hkey, h1, Result.andThen]
    · simp [Instr.lookup, run_underlying ht, MapKept.run_getObj_map hb, K.check w _ hkey, h1, Result.andThen, AL.get_some hd hka]

/-- 'm[k] = v'. -/
theorem MapAt.update (h : MapAt P kt ek R w b l) (K : Keyed P kt) (hinj : ∀ a b, ek a = ek b → a = b) (ht : P.underlying t = some (.map kt et)) {k : κ} {kl : Lit} (hkey : keyOf P kt (ek k) = some kl) (val : Value) :
    ∃ w', (Instr.mapUpdate t (.map (some b)) (ek k) val).run P w = .ok () w' ∧ w.grownBy w' (some b) ∧ w'.heap.size = w.heap.size ∧
      ∀ (R' : World → κ → Value → α → Prop) (a : α), (∀ k' u a', k' ≠ k → R w k' u a' → R' w' k' u a') → R' w' k val a → MapAt P kt ek R' w' b (AL.put l k a) := by
  obtain ⟨es, clock, hb, hs, hl, hd, h4, hf⟩ := h.find K hinj hkey
  rcases hf with ⟨h1, h2, h3⟩ | ⟨j, e0, a0, h1, h2, h3, hka, hR⟩
  · refine ⟨ChangeMaps.setBlock w b (.map (es.push ⟨ek k, val, clock⟩) (clock + 1)), ?_, ⟨rfl, rfl, rfl, by simp [ChangeMaps.setBlock], fun i _ hi => ChangeMaps.heap_setBlock_other hb _ (fun e => hi (by rw [e]))⟩, by simp [ChangeMaps.setBlock], ?_⟩
    · simp [Instr.mapUpdate, run_underlying ht, MapKept.run_getObj_map hb, K.check w false hkey, h1, MapKept.run_setObj_map _ hb, Result.andThen, ChangeMaps.setBlock]
    · intro R' a hR' hv
      refine ⟨_, _, ChangeMaps.heap_setBlock_same hb _, stamped_push hs h2, ?_, ?_⟩
      · rw [AL.put_none h3]; simp; simpa using hl
      · rw [AL.put_none h3]
        intro i k' a' hi
        by_cases hil : i < l.length
        · rw [List.getElem?_append_left hil] at hi
          obtain ⟨e, g1, g2, g3, g4⟩ := h4 i k' a' hi
          refine ⟨e, ?_, g2, hR' _ _ _ (h3 _ (List.mem_of_getElem? hi)) g3, g4⟩
          rw [Array.toList_push, List.getElem?_append_left (by omega)]
          exact g1
        · have hi2 : i < (l ++ [(k, a)]).length := (List.getElem?_eq_some_iff.1 hi).1
          simp at hi2
          obtain rfl : i = l.length := by omega
          simp at hi
          obtain ⟨rfl, rfl⟩ := hi
          refine ⟨⟨ek k, val, clock⟩, ?_, rfl, hv, kl, hkey⟩
          rw [Array.toList_push, List.getElem?_append_right (by omega), hl]
          simp
  · have hj : es[j]? = some e0 := by simpa using h2
    have hjl : j < es.toList.length := (List.getElem?_eq_some_iff.1 h2).1
    have hkeyf : ∀ e', es[j]? = some e' → ({ e' with key := ek k, val := val } : MapEntry).key = e'.key := fun e' he' => by rw [hj] at he'; cases he'; exact h3.symm
    have hlist : (es.modify j (fun e' => { e' with key := ek k, val := val })).toList = es.toList.set j { e0 with key := ek k, val := val } := by rw [Array.toList_modify, ChangeMaps.modify_eq_set _ _ _ _ h2]
    refine ⟨ChangeMaps.setBlock w b (.map (es.modify j (fun e' => { e' with key := ek k, val := val })) clock), ?_, ⟨rfl, rfl, rfl, by simp [ChangeMaps.setBlock], fun i _ hi => ChangeMaps.heap_setBlock_other hb _ (fun e => hi (by rw [e]))⟩, by simp [ChangeMaps.setBlock], ?_⟩
    · simp [Instr.mapUpdate, run_underlying ht, MapKept.run_getObj_map hb, K.check w false hkey, h1, hj, h3, K.stays w hkey, MapKept.run_setObj_map _ hb, Result.andThen, ChangeMaps.setBlock]
    · intro R' a hR' hv
      refine ⟨es.modify j (fun e' => { e' with key := ek k, val := val }), clock, ChangeMaps.heap_setBlock_same hb _, stamped_modify hs _ _ (fun _ _ => rfl) (fun e' _ he' => hkeyf e' he'), ?_, ?_⟩
      · rw [AL.put_some hd hka, hlist]; simp; simpa using hl
      · rw [AL.put_some hd hka]
        intro i k' a' hi
        rw [List.getElem?_set] at hi
        split at hi
        · rename_i hij
          subst hij
          split at hi
          · simp at hi
            obtain ⟨rfl, rfl⟩ := hi
            refine ⟨{ e0 with key := ek k, val := val }, ?_, rfl, hv, kl, hkey⟩
            rw [hlist, List.getElem?_set_self hjl]
          · cases hi
        · rename_i hij
          obtain ⟨e, g1, g2, g3, g4⟩ := h4 i k' a' hi
          refine ⟨e, ?_, g2, hR' _ _ _ ?_ g3, g4⟩
          · rw [hlist, List.getElem?_set_ne hij]; exact g1
          · rintro rfl
            refine hij ?_
            have hi' : i < (l.map Prod.fst).length := by rw [List.length_map]; exact (List.getElem?_eq_some_iff.1 hi).1
            have hj' : j < (l.map Prod.fst).length := by rw [List.length_map]; omega
            have a1 := (List.getElem?_eq_some_iff.1 hi).2
            have a2 := (List.getElem?_eq_some_iff.1 hka).2
            have hp := List.pairwise_iff_getElem.1 hd
            rcases Nat.lt_trichotomy j i with hlt | rfl | hlt
            · exact absurd (by simp only [List.getElem_map, a1, a2]) (hp j i hj' hi' hlt)
            · rfl
            · exact absurd (by simp only [List.getElem_map, a1, a2]) (hp i j hi' hj' hlt)
end

end Go.Proofs.YtbiopedpceddeaaGreatDoor
end
section
namespace Go.Proofs.YtbiopedpceddeaaGreatDoor
open Go.RowKit

theorem ret_bool {a b : Bool} (h : a = b) : Ending.returned (.bool a) = .returned (.bool b) := by rw [h]
theorem ret_int {k : IntKind} {a b : Int} (h : a = b) : Ending.returned (.int k a) = .returned (.int k b) := by rw [h]

namespace B
theorem wrap64_id {x : Int} (h : -9223372036854775808 ≤ x) (h' : x ≤ 9223372036854775807) : wrap64 x = x := IntWalk.wrap64_in x ⟨h, h'⟩
theorem and_mask {n x : Int} (hn : n ≤ 32) (h0 : 0 ≤ x) (h1 : x < 4294967296) : bits .and .u32 x (pw n - 1) = x % pw n := by
  have hp := pw_pos n
  have hl := pw_le hn
  rw [u32_and x (pw n - 1) h0 h1 (by omega) (by omega)]
  have e : (pw n - 1).toNat = 2 ^ n.toNat - 1 := by have := pw_nat n; omega
  rw [e, Nat.and_two_pow_sub_one_eq_mod]
  have h3 : ((x.toNat % 2 ^ n.toNat : Nat) : Int) = (x.toNat : Int) % ((2 ^ n.toNat : Nat) : Int) := Int.natCast_emod _ _
  rw [h3, ← pw_nat, Int.toNat_of_nonneg h0]
end B

theorem isWidth_yes (n : Int) (w : World) (h0 : 1 ≤ n) (h1 : n ≤ 32) : Calls Tryz.prog 104 #[.int .i64 n] w fun e w' => e = .returned (.bool true) ∧ w = w' := by
  go_enter Tryz.func104, Tryz.ntmps104
  go_wp2
  go_ret
  exact ⟨rfl, rfl⟩
theorem isWidth_no (n : Int) (w : World) (h : n < 1 ∨ 32 < n) : Calls Tryz.prog 104 #[.int .i64 n] w fun e w' => e = .returned (.bool false) ∧ w = w' := by
  rcases h with h | h
  · go_enter Tryz.func104, Tryz.ntmps104
    go_wp2
    go_ret
    exact ⟨rfl, rfl⟩
  · have h1 : 1 ≤ n := by omega
    have hd : decide (n ≤ 32) = false := by simp; omega
    go_enter Tryz.func104, Tryz.ntmps104
    go_wp2
    go_ret
    exact ⟨rfl, rfl⟩
theorem isWidth_any (n : Int) (w : World) : Calls Tryz.prog 104 #[.int .i64 n] w fun e w' => e = .returned (.bool (B.isWd n)) ∧ w = w' := by
  cases h : B.isWd n
  · exact isWidth_no n w (by have : ¬ (1 ≤ n ∧ n ≤ 32) := fun hc => by rw [B.isWd_iff.2 hc] at h; cases h
                             omega)
  · have := B.isWd_iff.1 h
    exact isWidth_yes n w this.1 this.2

theorem mask_any (n : Int) (w : World) (h0 : 0 ≤ n) (h1 : n ≤ 32) : Calls Tryz.prog 105 #[.int .i64 n] w fun e w' => e = .returned (.int .u32 (B.pw n - 1)) ∧ w = w' := by
  go_enter Tryz.func105, Tryz.ntmps105
  go_wp2
  go_ret
  refine ⟨ret_int ?_, rfl⟩
  have e : (2 : Int) ^ n.toNat = B.pw n := rfl
  have hp := B.pw_pos n
  have hl := B.pw_le h1
  rw [e, IntKind.wrap_u64, IntKind.wrap_u64]
  omega

theorem Mask_any (n : Int) (w : World) : Calls Tryz.prog 100 #[.int .i64 n] w fun e w' => e = .returned (.tuple #[.int .u32 (if B.isWd n then B.pw n - 1 else 0), .int .i64 (if B.isWd n then 0 else 1)]) ∧ w = w' := by
  have H1 := Lib.hid (isWidth_any n w)
  cases h : B.isWd n
  · rw [h] at H1
    have Hh := Lib.hid h; clear h
    go_enter Tryz.func100, Tryz.ntmps100
    go_wp2_with fail
    refine H1.out.mono ?_
    rintro e w' ⟨rfl, rfl⟩
    go_wp2
    go_ret2
    exact ⟨rfl, rfl⟩
  · have hn := B.isWd_iff.1 h
    rw [h] at H1
    have H2 := Lib.hid (mask_any n w (by omega) hn.2)
    have Hh := Lib.hid h; clear h hn
    go_enter Tryz.func100, Tryz.ntmps100
    go_wp2_with fail
    refine H1.out.mono ?_
    rintro e w' ⟨rfl, rfl⟩
    go_wp2_with fail
    refine H2.out.mono ?_
    rintro e w' ⟨rfl, rfl⟩
    go_wp2
    go_ret2
    exact ⟨rfl, rfl⟩

end Go.Proofs.YtbiopedpceddeaaGreatDoor
end
section
namespace Go.Proofs.YtbiopedpceddeaaGreatDoor
open Go.RowKit
set_option linter.unusedVariables false

namespace B
theorem mask_mod {n : Int} (x : Int) (hn : n ≤ 32) : bits .and .u32 (x % 4294967296) (pw n - 1) = x % pw n := by
  rw [and_mask hn (Int.emod_nonneg _ (by decide)) (Int.emod_lt_of_pos _ (by decide)), mod_mod _ hn]
end B

end Go.Proofs.YtbiopedpceddeaaGreatDoor
end
section
namespace Go.Proofs.YtbiopedpceddeaaGreatDoor
open Go.RowKit
set_option linter.unusedVariables false

end Go.Proofs.YtbiopedpceddeaaGreatDoor
end
section
namespace Go.Proofs.YtbiopedpceddeaaGreatDoor
open Go.RowKit Go.Maps Go.Shelf
set_option linter.unusedVariables false

theorem take_succ_of {α : Type} {xs : List α} {k : Nat} {x : α} (h : xs[k]? = some x) : xs.take (k + 1) = xs.take k ++ [x] := by
  rw [List.take_add_one, h]; rfl
theorem take_all {α : Type} {xs : List α} {n k : Nat} (hn : xs.length = n) (h : n ≤ k) : xs.take k = xs := List.take_of_length_le (by omega)
theorem all_take_step {α : Type} {p : α → Bool} {xs : List α} {k : Nat} {x : α} (hx : xs[k]? = some x) (h : (xs.take k).all p = true) (hp : p x = true) : (xs.take (k + 1)).all p = true := by
  rw [take_succ_of hx, List.all_append, h]; simp [hp]
theorem all_false_at {α : Type} {p : α → Bool} {xs : List α} {k : Nat} {x : α} (hx : xs[k]? = some x) (hp : p x = false) : xs.all p = false := by
  cases h : xs.all p
  · rfl
  · rw [List.all_eq_true] at h; rw [h x (List.mem_of_getElem? hx)] at hp; cases hp

set_option maxHeartbeats 400000 in
theorem fits_any (n : Int) (A : Option Addr) (m c : Nat) (xs : List Int) (w : World) (hA : SlAt (IntR .u32) w A m xs) :
    Calls Tryz.prog 102 #[.int .i64 n, .slice A m c] w fun e w' => e = .returned (.bool (B.isWd n && xs.all fun x => decide (x < B.pw n))) ∧ w = w' := by
  have hl := hA.le
  have HA := Lib.hid hA; clear hA
  have H1 := Lib.hid (isWidth_any n w)
  cases h : B.isWd n
  · rw [h] at H1
    clear h
    go_enter Tryz.func102, Tryz.ntmps102
    go_wp2_with fail
    refine H1.out.mono ?_
    rintro e w' ⟨rfl, rfl⟩
    go_wp2
    go_ret
    exact ⟨rfl, rfl⟩
  · have hn := B.isWd_iff.1 h
    rw [h] at H1
    have HM := Lib.hid (fun W => mask_any n W (by omega) hn.2)
    clear h hn
    go_enter Tryz.func102, Tryz.ntmps102
    go_wp2_with fail
    refine H1.out.mono ?_
    rintro e w' ⟨rfl, rfl⟩
    go_wp2
    go_loop [12] (fun i => ∃ k : Nat, k ≤ m ∧ i = .int .i64 k ∧ Hid ((xs.take k).all (fun x => decide (x < B.pw n)) = true)) (fun i => m - (intOf i).toNat)
    case atStart => exact ⟨0, Nat.zero_le _, rfl, rfl⟩
    case round =>
      obtain ⟨k, hk, rfl, HT⟩ := hrel
      by_cases hlt : k < m
      · obtain ⟨x, b, off, u, hx, rfl, _, h1, rfl⟩ := HA.out.at_ hlt
        have Hx := Lib.hid hx; clear hx
        by_cases hc : x < B.pw n
        · have hd : decide (B.pw n - 1 < x) = false := by simp; omega
          have Hc := Lib.hid hc; clear hc
          generalize B.pw n - 1 = z at HM hd
          go_wp2_with fail
          refine (HM.out _).mono ?_
          rintro e w' ⟨rfl, rfl⟩
          go_wp2
          go_round
          case rel => exact ⟨k + 1, by omega, by go_num, all_take_step Hx.out HT.out (by simpa using Hc.out)⟩
          case measure => simp [intOf]; omega
        · have hd : decide (B.pw n - 1 < x) = true := by simp; omega
          have Hc := Lib.hid (show decide (x < B.pw n) = false by simpa using hc); clear hc
          generalize B.pw n - 1 = z at HM hd
          go_wp2_with fail
          refine (HM.out _).mono ?_
          rintro e w' ⟨rfl, rfl⟩
          go_wp2
          go_ret
          exact ⟨ret_bool (by rw [all_false_at Hx.out Hc.out]; rfl), rfl⟩
      · go_wp2
        go_ret
        have h3 := HT.out
        rw [take_all HA.out.len (by omega)] at h3
        exact ⟨ret_bool (by rw [h3]), rfl⟩

end Go.Proofs.YtbiopedpceddeaaGreatDoor
end
section
namespace Go.Proofs.YtbiopedpceddeaaGreatDoor
open Go.RowKit Go.Maps Go.Shelf
set_option linter.unusedVariables false

end Go.Proofs.YtbiopedpceddeaaGreatDoor
end
section
namespace Go.Proofs.YtbiopedpceddeaaGreatDoor
open Go.RowKit Go.Maps Go.Shelf
set_option linter.unusedVariables false
set_option linter.unusedSimpArgs false

end Go.Proofs.YtbiopedpceddeaaGreatDoor
end
section
namespace Go.Proofs.YtbiopedpceddeaaGreatDoor
open Go.RowKit Go.Maps Go.Shelf
set_option linter.unusedVariables false

end Go.Proofs.YtbiopedpceddeaaGreatDoor
end
section
namespace Go.Proofs.YtbiopedpceddeaaGreatDoor.B

end Go.Proofs.YtbiopedpceddeaaGreatDoor.B
end
