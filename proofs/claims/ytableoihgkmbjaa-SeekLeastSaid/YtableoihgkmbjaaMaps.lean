/- Plain words for maps that the call makes: a block that holds an association list; its look-up, store, length; over any program. -/
import Derived.Test.YtableoihgkmbjaaBase
import Derived.Maps.Keyed
import Derived.Maps.OwnOps
import Derived.Carry
import Derived.ChangeMaps5
namespace Go.Proofs.Ytableoihgkmbjaa
open Go.RowKit Go.MapKept Go.Maps

namespace AL
variable {κ α : Type} [DecidableEq κ]
def get : List (κ × α) → κ → Option α
  | [], _ => none
  | p :: l, k => if p.1 = k then some p.2 else get l k
def put : List (κ × α) → κ → α → List (κ × α)
  | [], k, a => [(k, a)]
  | p :: l, k, a => if p.1 = k then (k, a) :: l else p :: put l k a
theorem get_none {l : List (κ × α)} {k : κ} (h : ∀ p ∈ l, p.1 ≠ k) : get l k = none := by
  induction l with
  | nil => rfl
  | cons p l ih => rw [get, if_neg (h p (by simp)), ih (fun q hq => h q (by simp [hq]))]
theorem get_some {l : List (κ × α)} {k : κ} {a : α} {j : Nat} (hd : (l.map Prod.fst).Nodup) (h : l[j]? = some (k, a)) : get l k = some a := by
  induction l generalizing j with
  | nil => simp at h
  | cons p l ih =>
    rw [List.map_cons, List.nodup_cons] at hd
    cases j with
    | zero => simp at h; subst h; simp [get]
    | succ j =>
      simp at h
      have hm : k ∈ l.map Prod.fst := List.mem_map.2 ⟨(k, a), List.mem_of_getElem? h, rfl⟩
      rw [get, if_neg (fun e => hd.1 (by rw [e]; exact hm))]
      exact ih hd.2 h
theorem put_none {l : List (κ × α)} {k : κ} (h : ∀ p ∈ l, p.1 ≠ k) (a : α) : put l k a = l ++ [(k, a)] := by
  induction l with
  | nil => rfl
  | cons p l ih => rw [put, if_neg (h p (by simp)), ih (fun q hq => h q (by simp [hq]))]; rfl
theorem put_some {l : List (κ × α)} {k : κ} {a0 : α} {j : Nat} (hd : (l.map Prod.fst).Nodup) (h : l[j]? = some (k, a0)) (a : α) : put l k a = l.set j (k, a) := by
  induction l generalizing j with
  | nil => simp at h
  | cons p l ih =>
    rw [List.map_cons, List.nodup_cons] at hd
    cases j with
    | zero => simp at h; subst h; simp [put]
    | succ j =>
      simp at h
      have hm : k ∈ l.map Prod.fst := List.mem_map.2 ⟨(k, a0), List.mem_of_getElem? h, rfl⟩
      rw [put, if_neg (fun e => hd.1 (by rw [e]; exact hm)), ih hd.2 h]
      rfl
theorem get_put_same (l : List (κ × α)) (k : κ) (a : α) : get (put l k a) k = some a := by
  induction l with
  | nil => simp [put, get]
  | cons p l ih => unfold put; split <;> simp_all [get]
theorem get_put_other (l : List (κ × α)) {k k' : κ} (a : α) (h : k' ≠ k) : get (put l k a) k' = get l k' := by
  induction l with
  | nil => simp [put, get, Ne.symm h]
  | cons p l ih =>
    unfold put
    split
    · rename_i e; simp [get, e, Ne.symm h]
    · simp only [get, ih]
theorem get_mem {l : List (κ × α)} {k : κ} {a : α} (h : get l k = some a) : (k, a) ∈ l := by
  induction l with
  | nil => simp [get] at h
  | cons p l ih =>
    unfold get at h
    split at h
    · rename_i e; cases h; subst e; simp
    · exact List.mem_cons_of_mem _ (ih h)
theorem mem_put {l : List (κ × α)} {k : κ} {a : α} {p : κ × α} (h : p ∈ put l k a) : p ∈ l ∨ p = (k, a) := by
  induction l with
  | nil => simpa [put] using h
  | cons q l ih =>
    unfold put at h
    split at h
    · rcases List.mem_cons.1 h with h | h
      · exact .inr h
      · exact .inl (by simp [h])
    · rcases List.mem_cons.1 h with h | h
      · exact .inl (by simp [h])
      · rcases ih h with h | h
        · exact .inl (by simp [h])
        · exact .inr h
theorem length_put (l : List (κ × α)) (k : κ) (a : α) : (put l k a).length = if get l k = none then l.length + 1 else l.length := by
  induction l with
  | nil => simp [put, get]
  | cons p l ih =>
    unfold put get
    split
    · simp
    · simp only [List.length_cons, ih]; split <;> simp_all
theorem length_put_le (l : List (κ × α)) (k : κ) (a : α) : (put l k a).length ≤ l.length + 1 := by
  rw [length_put]; split <;> omega
end AL

def MapEnt {κ α : Type} (P : Program) (kt : TypeId) (ek : κ → Value) (R : World → κ → Value → α → Prop) (w : World) (es : Array MapEntry) (l : List (κ × α)) : Prop :=
  ∀ (i : Nat) (k : κ) (a : α), l[i]? = some (k, a) → ∃ e : MapEntry, es.toList[i]? = some e ∧ e.key = ek k ∧ R w k e.val a ∧ ∃ kl, keyOf P kt (ek k) = some kl

/-- Block b is a map that holds the association list l, in the order of its making: keys by ek, elements read by R. -/
def MapAt {κ α : Type} (P : Program) (kt : TypeId) (ek : κ → Value) (R : World → κ → Value → α → Prop) (w : World) (b : Nat) (l : List (κ × α)) : Prop :=
  ∃ (es : Array MapEntry) (clock : Nat), w.heap[b]? = some (.map es clock) ∧ Stamped es clock ∧ es.toList.length = l.length ∧
    MapEnt P kt ek R w es l

section
variable {κ α : Type} {P : Program} {kt et t : TypeId} {ek : κ → Value} {R : World → κ → Value → α → Prop} {w w' : World} {b : Nat} {l : List (κ × α)}

theorem MapAt.lt (h : MapAt P kt ek R w b l) : b < w.heap.size := by
  obtain ⟨es, clock, hb, _⟩ := h
  exact (Array.getElem?_eq_some_iff.1 hb).1

theorem MapAt.made (w : World) : MapAt P kt ek R (w.alloc (.map #[] 0)) w.heap.size [] :=
  ⟨#[], 0, heap_alloc_new w _, stamped_empty 0, by simp, by intro i k a h; simp at h⟩

/-- The map stays while its block stays, and its elements go on reading as they did. -/
theorem MapAt.keep {R' : World → κ → Value → α → Prop} (h : MapAt P kt ek R w b l) (hb : w'.heap[b]? = w.heap[b]?) (hR : ∀ k u a, R w k u a → R' w' k u a) : MapAt P kt ek R' w' b l := by
  obtain ⟨es, clock, h1, h2, h3, h4⟩ := h
  refine ⟨es, clock, hb.trans h1, h2, h3, fun i k a hi => ?_⟩
  obtain ⟨e, e1, e2, e3, e4⟩ := h4 i k a hi
  exact ⟨e, e1, e2, hR _ _ _ e3, e4⟩

theorem mapAt_entry {es : Array MapEntry} (hl : es.toList.length = l.length) {j : Nat} {e : MapEntry} (he : es.toList[j]? = some e) : ∃ k a, l[j]? = some (k, a) := by
  have hj : j < l.length := by rw [← hl]; exact (List.getElem?_eq_some_iff.1 he).1
  exact ⟨l[j].1, l[j].2, List.getElem?_eq_getElem hj⟩

theorem mapAt_nodup {es : Array MapEntry} {clock : Nat} (hs : Stamped es clock) (hl : es.toList.length = l.length)
    (h4 : MapEnt P kt ek R w es l) : (l.map Prod.fst).Nodup := by
  have hp := ((stamped_iff es clock).1 hs).2.2
  rw [List.Nodup, List.pairwise_map, List.pairwise_iff_getElem]
  intro i j hi hj hij e
  rw [List.pairwise_iff_getElem] at hp
  obtain ⟨ei, h1, h2, _⟩ := h4 i l[i].1 l[i].2 (List.getElem?_eq_getElem hi)
  obtain ⟨ej, h3, h5, _⟩ := h4 j l[j].1 l[j].2 (List.getElem?_eq_getElem hj)
  have := hp i j (by omega) (by omega) hij
  rw [List.getElem?_eq_getElem (by omega)] at h1 h3
  rw [Option.some.inj h1, Option.some.inj h3, h2, h5, e] at this
  exact this rfl

theorem MapAt.find (h : MapAt P kt ek R w b l) (K : Keyed P kt) (hinj : ∀ a b, ek a = ek b → a = b) {k : κ} {kl : Lit} (hkey : keyOf P kt (ek k) = some kl) :
    ∃ (es : Array MapEntry) (clock : Nat), w.heap[b]? = some (.map es clock) ∧ Stamped es clock ∧ es.toList.length = l.length ∧ (l.map Prod.fst).Nodup ∧
      MapEnt P kt ek R w es l ∧
      (((Instr.findKey kt (ek k) es.toList).run P w = .ok none w ∧ (∀ e ∈ es.toList, e.key ≠ ek k) ∧ ∀ p ∈ l, p.1 ≠ k) ∨
       ∃ j e a, (Instr.findKey kt (ek k) es.toList).run P w = .ok (some (j, e.val)) w ∧ es.toList[j]? = some e ∧ e.key = ek k ∧ l[j]? = some (k, a) ∧ R w k e.val a) := by
  obtain ⟨es, clock, hb, hs, hl, h4⟩ := h
  have hd := mapAt_nodup hs hl h4
  have hkeys : ∀ e ∈ es.toList, ∃ l, keyOf P kt e.key = some l := by
    intro e he
    obtain ⟨j, hj, rfl⟩ := List.mem_iff_getElem.1 he
    obtain ⟨k', a, hka⟩ := mapAt_entry hl (List.getElem?_eq_getElem hj)
    obtain ⟨e', h1, h2, _, kl', h5⟩ := h4 j k' a hka
    rw [List.getElem?_eq_getElem hj] at h1
    exact ⟨kl', by rw [Option.some.inj h1, h2]; exact h5⟩
  refine ⟨es, clock, hb, hs, hl, hd, h4, ?_⟩
  rcases K.find w hkey es.toList hkeys with ⟨h1, h2⟩ | ⟨j, e, h1, h2, h3⟩
  · refine .inl ⟨h1, h2, fun p hp e => ?_⟩
    obtain ⟨i, hi, rfl⟩ := List.mem_iff_getElem.1 hp
    obtain ⟨e', g1, g2, _⟩ := h4 i l[i].1 l[i].2 (List.getElem?_eq_getElem hi)
    exact h2 e' (List.mem_of_getElem? g1) (by rw [g2, e])
  · obtain ⟨k', a, hka⟩ := mapAt_entry hl h2
    obtain ⟨e', g1, g2, g3, _⟩ := h4 j k' a hka
    rw [h2] at g1
    obtain rfl := Option.some.inj g1
    obtain rfl : k' = k := hinj _ _ (by rw [← g2, h3])
    exact .inr ⟨j, e, a, h1, h2, h3, hka, g3⟩

variable [DecidableEq κ]

/-- 'm[k]'; the element type's zero value reads as a0. -/
theorem MapAt.lookup (h : MapAt P kt ek R w b l) (K : Keyed P kt) (hinj : ∀ a b, ek a = ek b → a = b) (ht : P.underlying t = some (.map kt et)) {z : Value} (hz : (zeroValue et).run P w = .ok z w) {k : κ} {kl : Lit} (hkey : keyOf P kt (ek k) = some kl) :
    ∃ u, (Instr.lookup t (.map (some b)) (ek k) false).run P w = .ok u w ∧ (Instr.lookup t (.map (some b)) (ek k) true).run P w = .ok (.tuple #[u, .bool (AL.get l k).isSome]) w ∧
      ((AL.get l k = none ∧ u = z) ∨ ∃ a, AL.get l k = some a ∧ R w k u a) := by
  obtain ⟨es, clock, hb, hs, hl, hd, h4, hf⟩ := h.find K hinj hkey
  rcases hf with ⟨h1, h2, h3⟩ | ⟨j, e, a, h1, h2, h3, hka, hR⟩
  · refine ⟨z, ?_, ?_, .inl ⟨AL.get_none h3, rfl⟩⟩
    · simp [Instr.lookup, run_underlying ht, MapKept.run_getObj_map hb, K.check w _ hkey, h1, hz, Result.andThen]
    · simp [Instr.lookup, run_underlying ht, MapKept.run_getObj_map hb, K.check w _ hkey, h1, hz, Result.andThen, AL.get_none h3]
  · refine ⟨e.val, ?_, ?_, .inr ⟨a, AL.get_some hd hka, hR⟩⟩
    · simp [Instr.lookup, run_underlying ht, MapKept.run_getObj_map hb, K.check w _ hkey, h1, Result.andThen]
    · simp [Instr.lookup, run_underlying ht, MapKept.run_getObj_map hb, K.check w _ hkey, h1, Result.andThen, AL.get_some hd hka]

/-- 'm[k] = v'. -/
theorem MapAt.update (h : MapAt P kt ek R w b l) (K : Keyed P kt) (hinj : ∀ a b, ek a = ek b → a = b) (ht : P.underlying t = some (.map kt et)) {k : κ} {kl : Lit} (hkey : keyOf P kt (ek k) = some kl) (val : Value) :
    ∃ w', (Instr.mapUpdate t (.map (some b)) (ek k) val).run P w = .ok () w' ∧ w.grownBy w' (some b) ∧ w'.heap.size = w.heap.size ∧
      ∀ (R' : World → κ → Value → α → Prop) (a : α), (∀ k' u a', k' ≠ k → R w k' u a' → R' w' k' u a') → R' w' k val a → MapAt P kt ek R' w' b (AL.put l k a) := by
  obtain ⟨es, clock, hb, hs, hl, hd, h4, hf⟩ := h.find K hinj hkey
  rcases hf with ⟨h1, h2, h3⟩ | ⟨j, e0, a0, h1, h2, h3, hka, hR⟩
  · refine ⟨ChangeMaps.setBlock w b (.map (es.push ⟨ek k, val, clock⟩) (clock + 1)), ?_, ⟨rfl, rfl, rfl, by simp [ChangeMaps.setBlock], fun i _ hi => ChangeMaps.heap_setBlock_other hb _ (fun e => hi (by rw [e]))⟩, by simp [ChangeMaps.setBlock], ?_⟩
    · simp [Instr.mapUpdate, run_underlying ht, MapKept.run_getObj_map hb, K.check w false hkey, h1, MapKept.run_setObj_map _ hb, Result.andThen, ChangeMaps.setBlock]
    · intro R' a hR' hv
      refine ⟨_, _, ChangeMaps.heap_setBlock_same hb _, stamped_push hs h2, ?_, ?_⟩
      · rw [AL.put_none h3]; simp; simpa using hl
      · rw [AL.put_none h3]
        intro i k' a' hi
        by_cases hil : i < l.length
        · rw [List.getElem?_append_left hil] at hi
          obtain ⟨e, g1, g2, g3, g4⟩ := h4 i k' a' hi
          refine ⟨e, ?_, g2, hR' _ _ _ (h3 _ (List.mem_of_getElem? hi)) g3, g4⟩
          rw [Array.toList_push, List.getElem?_append_left (by omega)]
          exact g1
        · have hi2 : i < (l ++ [(k, a)]).length := (List.getElem?_eq_some_iff.1 hi).1
          simp at hi2
          obtain rfl : i = l.length := by omega
          simp at hi
          obtain ⟨rfl, rfl⟩ := hi
          refine ⟨⟨ek k, val, clock⟩, ?_, rfl, hv, kl, hkey⟩
          rw [Array.toList_push, List.getElem?_append_right (by omega), hl]
          simp
  · have hj : es[j]? = some e0 := by simpa using h2
    have hjl : j < es.toList.length := (List.getElem?_eq_some_iff.1 h2).1
    have hkeyf : ∀ e', es[j]? = some e' → ({ e' with key := ek k, val := val } : MapEntry).key = e'.key := fun e' he' => by rw [hj] at he'; cases he'; exact h3.symm
    have hlist : (es.modify j (fun e' => { e' with key := ek k, val := val })).toList = es.toList.set j { e0 with key := ek k, val := val } := by rw [Array.toList_modify, ChangeMaps.modify_eq_set _ _ _ _ h2]
    refine ⟨ChangeMaps.setBlock w b (.map (es.modify j (fun e' => { e' with key := ek k, val := val })) clock), ?_, ⟨rfl, rfl, rfl, by simp [ChangeMaps.setBlock], fun i _ hi => ChangeMaps.heap_setBlock_other hb _ (fun e => hi (by rw [e]))⟩, by simp [ChangeMaps.setBlock], ?_⟩
    · simp [Instr.mapUpdate, run_underlying ht, MapKept.run_getObj_map hb, K.check w false hkey, h1, hj, h3, K.stays w hkey, MapKept.run_setObj_map _ hb, Result.andThen, ChangeMaps.setBlock]
    · intro R' a hR' hv
      refine ⟨es.modify j (fun e' => { e' with key := ek k, val := val }), clock, ChangeMaps.heap_setBlock_same hb _, stamped_modify hs _ _ (fun _ _ => rfl) (fun e' _ he' => hkeyf e' he'), ?_, ?_⟩
      · rw [AL.put_some hd hka, hlist]; simp; simpa using hl
      · rw [AL.put_some hd hka]
        intro i k' a' hi
        rw [List.getElem?_set] at hi
        split at hi
        · rename_i hij
          subst hij
          split at hi
          · simp at hi
            obtain ⟨rfl, rfl⟩ := hi
            refine ⟨{ e0 with key := ek k, val := val }, ?_, rfl, hv, kl, hkey⟩
            rw [hlist, List.getElem?_set_self hjl]
          · cases hi
        · rename_i hij
          obtain ⟨e, g1, g2, g3, g4⟩ := h4 i k' a' hi
          refine ⟨e, ?_, g2, hR' _ _ _ ?_ g3, g4⟩
          · rw [hlist, List.getElem?_set_ne hij]; exact g1
          · rintro rfl
            refine hij ?_
            have hi' : i < (l.map Prod.fst).length := by rw [List.length_map]; exact (List.getElem?_eq_some_iff.1 hi).1
            have hj' : j < (l.map Prod.fst).length := by rw [List.length_map]; omega
            have a1 := (List.getElem?_eq_some_iff.1 hi).2
            have a2 := (List.getElem?_eq_some_iff.1 hka).2
            have hp := List.pairwise_iff_getElem.1 hd
            rcases Nat.lt_trichotomy j i with hlt | rfl | hlt
            · exact absurd (by simp only [List.getElem_map, a1, a2]) (hp j i hj' hi' hlt)
            · rfl
            · exact absurd (by simp only [List.getElem_map, a1, a2]) (hp i j hi' hj' hlt)
end

/-- 'm[k]' in whatever world in which the map's block is as it was: one value. -/
theorem MapAt.lookup_all {κ α : Type} [DecidableEq κ] {P : Program} {kt et t : TypeId} {ek : κ → Value} {R : World → κ → Value → α → Prop} {w : World} {b : Nat} {l : List (κ × α)} (h : MapAt P kt ek R w b l) (K : Keyed P kt) (hinj : ∀ a b, ek a = ek b → a = b)
    (ht : P.underlying t = some (.map kt et)) {z : Value} (hz : ∀ w, (zeroValue et).run P w = .ok z w) {k : κ} {kl : Lit} (hkey : keyOf P kt (ek k) = some kl) :
    ∃ u, (∀ w' : World, w'.heap[b]? = w.heap[b]? → (Instr.lookup t (.map (some b)) (ek k) false).run P w' = .ok u w') ∧ ((AL.get l k = none ∧ u = z) ∨ ∃ a, AL.get l k = some a ∧ R w k u a) := by
  obtain ⟨es, clock, hb, hs, hl, hd, h4, hf⟩ := h.find K hinj hkey
  rcases hf with ⟨h1, h2, h3⟩ | ⟨j, e, a, h1, h2, h3, hka, hR⟩
  · refine ⟨z, fun w' hw' => ?_, .inl ⟨AL.get_none h3, rfl⟩⟩
    obtain ⟨u, r1, _, r2⟩ := (h.keep (R' := fun _ _ _ _ => True) hw' (fun _ _ _ _ => trivial)).lookup K hinj ht (hz w') hkey
    rcases r2 with ⟨_, rfl⟩ | ⟨a, r3, _⟩
    · exact r1
    · rw [AL.get_none h3] at r3; cases r3
  · refine ⟨e.val, fun w' hw' => ?_, .inr ⟨a, AL.get_some hd hka, hR⟩⟩
    have h0 : MapAt P kt ek (fun (_ : World) (k' : κ) (u' : Value) (_ : α) => k' = k → u' = e.val) w b l := by
      refine ⟨es, clock, hb, hs, hl, fun i k' a' hi => ?_⟩
      obtain ⟨e', g1, g2, _, g4⟩ := h4 i k' a' hi
      refine ⟨e', g1, g2, ?_, g4⟩
      rintro rfl
      have hp := ((stamped_iff es clock).1 hs).2.2
      rw [List.pairwise_iff_getElem] at hp
      obtain ⟨hi', e1⟩ := List.getElem?_eq_some_iff.1 g1
      obtain ⟨hj', e2⟩ := List.getElem?_eq_some_iff.1 h2
      rcases Nat.lt_trichotomy i j with hlt | rfl | hlt
      · exact absurd (by rw [e1, e2, g2, h3]) (hp i j hi' hj' hlt)
      · rw [← e1, ← e2]
      · exact absurd (by rw [e1, e2, g2, h3]) (hp j i hj' hi' hlt)
    obtain ⟨u, r1, _, r2⟩ := (h0.keep (R' := fun (_ : World) (k' : κ) (u' : Value) (_ : α) => k' = k → u' = e.val) hw' (fun _ _ _ h => h)).lookup K hinj ht (hz w') hkey
    rcases r2 with ⟨r3, _⟩ | ⟨a', _, r3⟩
    · rw [AL.get_some hd hka] at r3; cases r3
    · rw [r3 rfl] at r1; exact r1

/-- 'm[k] = v' at the operation. -/
theorem wpList_mapUpdate_at {κ α : Type} [DecidableEq κ] {P : Program} {kt et t : TypeId} {ek : κ → Value} {R : World → κ → Value → α → Prop} {w : World} {b : Nat} {l : List (κ × α)}
    {ops : Array Oper} {rest : List Oper} {o : Oper} {a : Act} {Q : Exit → Act → World → Prop} (hg : o.guard = none) (m x v : Operand) (hop : o.op = Op.mapUpdate t m x v)
    (h : MapAt P kt ek R w b l) (K : Keyed P kt) (hinj : ∀ a b, ek a = ek b → a = b) (ht : P.underlying t = some (.map kt et)) (k : κ) (val : Value) {kl : Lit} (hkey : keyOf P kt (ek k) = some kl)
    (hm : a.eval m = .map (some b)) (hx : a.eval x = ek k) (hv : a.eval v = val)
    (hK : ∀ w', w.grownBy w' (some b) → w'.heap.size = w.heap.size → (∀ (R' : World → κ → Value → α → Prop) (a : α), (∀ k' u a', k' ≠ k → R w k' u a' → R' w' k' u a') → R' w' k val a → MapAt P kt ek R' w' b (AL.put l k a)) →
      wpList P ops Q rest (a.put o.dst undef) w') : wpList P ops Q (o :: rest) a w := by
  refine wpList_plain hg fun K' hK' => ?_
  obtain ⟨w', hrun, r1, r2, r3⟩ := h.update K hinj ht hkey val
  unfold Oper.wp
  simp [execOp, hop, hm, hx, hv, hrun, Result.andThen]
  exact hK' _ _ (hK w' r1 r2 r3)

/-- elements that are bools -/
def BoolK {κ : Type} (_ : World) (_ : κ) (u : Value) (b : Bool) : Prop := u = .bool b
theorem MapAt.lookup_bool {κ : Type} [DecidableEq κ] {P : Program} {kt et t : TypeId} {ek : κ → Value} {w : World} {b : Nat} {l : List (κ × Bool)} (h : MapAt P kt ek BoolK w b l) (K : Keyed P kt) (hinj : ∀ a b, ek a = ek b → a = b)
    (ht : P.underlying t = some (.map kt et)) (hz : (zeroValue et).run P w = .ok (.bool false) w) {k : κ} {kl : Lit} (hkey : keyOf P kt (ek k) = some kl) :
    (Instr.lookup t (.map (some b)) (ek k) false).run P w = .ok (.bool ((AL.get l k).getD false)) w := by
  obtain ⟨u, h1, _, h2⟩ := h.lookup K hinj ht hz hkey
  rcases h2 with ⟨h2, rfl⟩ | ⟨a, h2, h3⟩
  · rw [h2]; exact h1
  · rw [h2]
    have : u = .bool a := h3
    rw [this] at h1; exact h1
theorem ek_int_inj (q : IntKind) : ∀ a b : Int, Value.int q a = Value.int q b → a = b := fun a b h => by injection h
end Go.Proofs.Ytableoihgkmbjaa
