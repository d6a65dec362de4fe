/- Walks of the reference: the checker, copies of clauses. -/
import Derived.Test.YtceelipcclfdmaaW11
namespace Go.Proofs.Ytceelipcclfdmaa
open Go.RowKit

set_option maxHeartbeats 400000 in
theorem checked_any (n : Int) (A D : Option Addr) (m c p d : Nat) (cs l : List (List Int)) (w : World) (hA : SlAt (SlR (IntR .i64)) w A m cs) (hD : SlAt (SlR (IntR .i64)) w D p l) :
    Calls Try.prog 39 #[.int .i64 n, .slice A m c, .slice D p d] w fun e w' => e = .returned (.int .i64 (if S.validate n cs ≠ 0 then S.validate n cs else S.validate n l)) ∧ w = w' := by
  have Hcon := Lib.hid (refValidate_any n A m c cs w hA)
  have Hcon2 := Lib.hid (refValidate_any n D p d l w hD)
  clear hA hD
  obtain ⟨v, hv⟩ : ∃ v, v = S.validate n cs := ⟨_, rfl⟩
  rw [← hv] at Hcon ⊢
  clear hv
  by_cases h0 : v = 0
  · subst h0
    go_enter Try.func39, Try.ntmps39
    go_wp2_with fail
    refine Hcon.out.mono ?_
    rintro e w' ⟨rfl, rfl⟩
    go_wp2_with fail
    refine Hcon2.out.mono ?_
    rintro e w' ⟨rfl, rfl⟩
    go_wp2
    go_ret
    exact ⟨ret_int (by simp), rfl⟩
  · have hb : (v != 0) = true := by simpa using h0
    have H0 := Lib.hid h0; clear h0
    go_enter Try.func39, Try.ntmps39
    go_wp2_with fail
    refine Hcon.out.mono ?_
    rintro e w' ⟨rfl, rfl⟩
    go_wp2
    go_ret
    exact ⟨ret_int (by first | rfl | rw [if_pos H0.out]), rfl⟩

theorem ret_tupii {i j : IntKind} {a b a' b' : Int} (h : a = a') (h' : b = b') : Ending.returned (.tuple #[.int i a, .int j b]) = .returned (.tuple #[.int i a', .int j b']) := by rw [h, h']
def SomeII (w : World) (r : Int × Int) (e : Ending) (w' : World) : Prop := e = .returned (.tuple #[.int .i64 r.1, .int .i64 r.2]) ∧ Below w.heap.size w w'

theorem S.check_err {n : Int} {cs l : List (List Int)} {v : Int} (hv : v = if S.validate n cs ≠ 0 then S.validate n cs else S.validate n l) (h : v ≠ 0) : S.check n cs l = (0, v) := by
  unfold S.check
  split at hv
  · rename_i h1; rw [if_pos h1, hv]
  · rename_i h1; rw [if_neg h1, if_pos (by rw [← hv]; exact h), hv]
theorem S.check_zero {n : Int} {cs l : List (List Int)} {v : Int} (hv : v = if S.validate n cs ≠ 0 then S.validate n cs else S.validate n l) (h : v = 0) : S.validate n cs = 0 ∧ S.validate n l = 0 := by
  split at hv
  · rename_i h1; exact absurd (by rw [← hv]; exact h) h1
  · rename_i h1; exact ⟨by simpa using h1, by rw [← hv]; exact h⟩
theorem S.check_of {n : Int} {cs l : List (List Int)} (h1 : S.validate n cs = 0) (h2 : S.validate n l = 0) : S.check n cs l = if (S.checkOf cs l).2 then (((S.checkOf cs l).1 : Int), 0) else (((S.checkOf cs l).1 : Int), 8) := by
  unfold S.check S.checkOf S.failure
  rw [if_neg (by simp [h1]), if_neg (by simp [h2])]
  cases hb : S.bad cs l with
  | some k => simp
  | none =>
    by_cases hl : l.getLast? = some []
    · simp [hl]
    · simp [hl]

theorem oneCell_len {w : World} {A : Option Addr} {n : Nat} {xs : List (List Int)} (h : SlAt (SlR (IntR .i64)) w A n xs) : ∀ x ∈ xs, x.length ≤ 9223372036854775807 := by
  intro x hx
  obtain ⟨k, hk, rfl⟩ := List.mem_iff_getElem.1 hx
  obtain ⟨b, off, u, _, _, _, A', c, _, hs⟩ := h.2.2 k _ (List.getElem?_eq_getElem hk)
  exact hs.le

set_option maxHeartbeats 800000 in
theorem refCheckE_any (n : Int) (A D : Option Addr) (m c p d : Nat) (cs l : List (List Int)) (w : World) (hA : SlAt (SlR (IntR .i64)) w A m cs) (hD : SlAt (SlR (IntR .i64)) w D p l) (hlen : ∀ x ∈ l, x.length ≤ 100000000) :
    Calls Try.prog 17 #[.int .i64 n, .slice A m c, .slice D p d] w (SomeII w (S.check n cs l)) := by
  have Hcon := Lib.hid (checked_any n A D m c p d cs l w hA hD)
  have HA := Lib.hid hA; clear hA
  have HD := Lib.hid hD; clear hD
  obtain ⟨v, hv⟩ : ∃ v, v = if S.validate n cs ≠ 0 then S.validate n cs else S.validate n l := ⟨_, rfl⟩
  rw [← hv] at Hcon
  by_cases h0 : v = 0
  · obtain ⟨h1, h2⟩ := S.check_zero hv h0
    subst h0
    obtain ⟨hn0, hn4, hm, hc1⟩ := validate_zero h1
    obtain ⟨_, _, hp, hc2⟩ := validate_zero h2
    obtain ⟨N, rfl⟩ : ∃ N : Nat, n = N := ⟨n.toNat, by omega⟩
    have Hcon2 := Lib.hid (refCheck_any N A D m c p d cs l w HA.out HD.out hc1 hc2 (by omega) (by rw [← HA.out.len]; omega) (by rw [← HD.out.len]; omega) hlen)
    rw [S.check_of h1 h2]
    clear hv h1 h2 hc1 hc2 hlen
    generalize S.checkOf cs l = r at Hcon2 ⊢
    obtain ⟨k, b⟩ := r
    cases b
    all_goals
      go_enter Try.func17, Try.ntmps17
      go_wp2_with fail
      refine Hcon.out.mono ?_
      rintro e w' ⟨rfl, rfl⟩
      go_wp2_with fail
      refine Hcon2.out.mono ?_
      rintro e w' ⟨rfl, hb⟩
      go_wp2
      go_ret2
      exact ⟨rfl, hb⟩
  · rw [S.check_err hv h0]
    have hb : (v != 0) = true := by simpa using h0
    clear hv h0 hlen
    go_enter Try.func17, Try.ntmps17
    go_wp2_with fail
    refine Hcon.out.mono ?_
    rintro e w' ⟨rfl, rfl⟩
    go_wp2
    go_ret2
    exact ⟨rfl, Below.refl _ _⟩

/-- a row of the call's own that holds a list of numbers -/
def RowOwn (w : World) (u : Value) (x : List Int) : Prop := OwnAt w 3 1 u x.length (x.map (Value.int .i64))
theorem RowOwn.slR {w : World} {u : Value} {x : List Int} (h : RowOwn w u x) : SlR (IntR .i64) w u x := by
  have h' : OwnAt w 3 1 u x.length (x.map (Value.int .i64)) := h
  obtain ⟨A, c, rfl⟩ := h'.form
  exact ⟨A, c, rfl, h'.slInts⟩
theorem ownAt_ne {w : World} {e e' : TypeId} {s s' : Nat} {v v' : Value} {n n' : Nat} {xs xs' : List Value} (h : OwnAt w e s v n xs) (h' : OwnAt w e' s' v' n' xs') (hne : e ≠ e') : v.ownBlock = none ∨ v.ownBlock ≠ v'.ownBlock := by
  rcases h.2 with ⟨rfl, _⟩ | ⟨g, off, cap, cur, rfl, hg, _⟩
  · exact .inl rfl
  · rcases h'.2 with ⟨rfl, _⟩ | ⟨g', off', cap', cur', rfl, hg', _⟩
    · exact .inr (by simp [Value.ownBlock])
    · refine .inr fun he => ?_
      have : g = g' := by simpa [Value.ownBlock] using he
      subst this
      rw [hg] at hg'
      injection hg' with hg'
      injection hg' with _ ht
      exact hne ht
theorem Elems.map_ {α : Type} {R R' : World → Value → α → Prop} {w w' : World} {us : List Value} {xs : List α} (h : Elems R w us xs) (hr : ∀ u x, R w u x → R' w' u x) : Elems R' w' us xs := ⟨h.1, fun k x u hx hu => hr u x (h.2 k x u hx hu)⟩
theorem elems_ints {w : World} {us : List Value} {xs : List Int} {q : IntKind} (h : Elems (IntR q) w us xs) : us = xs.map (Value.int q) := by
  apply List.ext_getElem?
  intro k
  rw [List.getElem?_map]
  by_cases hk : k < xs.length
  · have hk2 : k < us.length := by rw [h.1]; exact hk
    rw [List.getElem?_eq_getElem hk, List.getElem?_eq_getElem hk2]
    have := h.2 k _ _ (List.getElem?_eq_getElem hk) (List.getElem?_eq_getElem hk2)
    simp only [IntR] at this
    rw [this]; rfl
  · rw [List.getElem?_eq_none (by rw [h.1]; omega), List.getElem?_eq_none (by omega)]; rfl

/-- A copy: a slice of the call's own whose rows stay while it alone is written. -/
def SomeCopy (w : World) (l : List (List Int)) (e : Ending) (w' : World) : Prop :=
  ∃ v us, e = .returned v ∧ OwnAt w' 23 1 v l.length us ∧ (∀ w2, w'.grownBy w2 v.ownBlock → Elems (SlR (IntR .i64)) w2 us l) ∧ Below w.heap.size w w' ∧ (∀ g, v.ownBlock = some g → w.heap.size ≤ g)

set_option maxRecDepth 100000 in
set_option maxHeartbeats 2000000 in
theorem copy_any (D : Option Addr) (p d : Nat) (l : List (List Int)) (w : World) (hD : SlAt (SlR (IntR .i64)) w D p l) (hp : p ≤ 100000) (hlen : ∀ x ∈ l, x.length ≤ 100000000) :
    Calls Try.prog 51 #[.slice D p d] w (SomeCopy w l) := by
  have HD := Lib.hid hD; clear hD
  have Hlen := Lib.hid hlen; clear hlen
  go_enter Try.func51, Try.ntmps51
  go_wp2
  go_loopg [3, 4] (p + 1) (fun g v i wr => ∃ (k : Nat) (vs : List Value), k ≤ p ∧ i = .int .i64 (k : Int) ∧ g + k = p + 1 ∧ OwnAt wr 23 1 v k vs ∧ Elems RowOwn wr vs (l.take k) ∧ Below w.heap.size w wr ∧ (∀ g, v.ownBlock = some g → w.heap.size ≤ g))
  case atStart => exact ⟨0, [], Nat.zero_le _, rfl, rfl, OwnAt.nil_ _ _ _, ⟨by simp, fun k x u hx => by simp at hx⟩, Below.refl _ _, fun g hg => by simp [Value.ownBlock] at hg⟩
  case round =>
    obtain ⟨k, vs, hk, rfl, hgk, hown, hel, hbw, hob⟩ := hrel
    have Hgk := Lib.hid hgk; clear hgk
    have Hown := Lib.hid hown; clear hown
    have Hel := Lib.hid hel; clear hel
    have Hob := Lib.hid hob; clear hob
    by_cases hlt : k < p
    · obtain ⟨x, b, off, u, hx, rfl, _, h1, A1, c1, rfl, s1⟩ := (HD.out.below (monoSl (monoInt _)) hbw).at_ hlt
      have hxl := Hlen.out x (List.mem_of_getElem? hx)
      have Hx := Lib.hid hx; clear hx
      obtain ⟨us, hus, hcells, hR⟩ := s1.cells
      have hux : us = x.map (Value.int .i64) := elems_ints ⟨hus, hR⟩
      subst hux
      have Hcells := Lib.hid hcells; clear hcells hus hR s1
      have hown0 := OwnAt.of_new (s := 1) (e := 3) wr #[] 0 rfl (by simp [maxLen])
      have Hown0 := Lib.hid hown0; clear hown0
      have HH1 := Lib.hid (ints_oneCell .i64 x)
      go_wp2_with (first
        | (at_builtin
           refine wpList_append_src _ rfl (.tmp 12) (.tmp 16) 23 rfl 3 (.int .i64 0) 1 8 Try.underlying23 Try.infoInt rfl (by omega) _ 0 _ rfl Hown0.out A1 x.length c1 (x.map (Value.int .i64)) rfl (by rw [List.length_map, Nat.mul_one]) (fun j u hu => by
             obtain ⟨ad, he, hc⟩ := Hcells.out j u hu
             refine ⟨ad, he, ?_⟩
             exact (((Below.refl _ _).alloc (Nat.le_refl _) _).cell (World.block_lt_of_cell? _ _ hc)).trans hc) HH1.out (by omega) (by omega) ?_
           intro v1 w1 hown1 hgr1 hat1
           rw [Nat.zero_add] at hown1
           obtain ⟨A3, c3, rfl⟩ := hown1.form
           have hrow : OwnAt w1 3 1 (.slice A3 x.length c3) x.length (x.map (Value.int .i64)) := by simpa using hown1
           have hb1 : Below wr.heap.size wr w1 := ((Below.refl _ _).alloc (Nat.le_refl _) _).grown hgr1 (by simp) (fun g hg => Nat.le_of_eq (Option.some.inj hg))
           have Hown2 := Lib.hid (Hown.out.below hb1 Hown.out.lt)
           have Hel2 := Lib.hid (show Elems RowOwn w1 vs (l.take k) from Hel.out.map_ fun u y hu => OwnAt.below hu hb1 (OwnAt.lt hu))
           have Hrow := Lib.hid (show RowOwn w1 _ x from hrow)
           have hbw1 := hbw.trans (hb1.mono hbw.size)
           clear hrow hown1 hgr1 hat1 h1)
        | (at_builtin
           refine wpList_append_one _ rfl (.tmp 11) (.tmp 18) 22 rfl 23 (.slice none 0 0) 24 Try.underlying22 Try.infoSl rfl _ k _ rfl Hown2.out (.slice A3 x.length c3) rfl 23 rfl (by omega) (by omega) ?_
           intro v' w3 hown' hgr hat))
      have Hown' := Lib.hid hown'; clear hown'
      obtain ⟨hb3, hv3⟩ := below_append hbw1 hbw1.size Hob.out hgr hat
      have hstay : ∀ (u : Value) (y : List Int), RowOwn w1 u y → RowOwn w3 u y := fun u y hu => OwnAt.kept (OwnAt.alloc hu _) hgr (ownAt_ne hu Hown2.out (by decide))
      have Hel3 := Lib.hid (show Elems RowOwn w3 (vs ++ [.slice A3 x.length c3]) (l.take (k + 1)) from by rw [take_succ_of Hx.out]; exact (Hel2.out.map_ hstay).snoc (hstay _ _ Hrow.out))
      have Hv3 := Lib.hid hv3; clear hv3 hgr hat hstay
      go_wp2
      go_roundg (gk - 1)
      case measure => have := Hgk.out; omega
      case rel =>
        have := Hgk.out
        exact ⟨k + 1, _, by omega, by go_num, by omega, Hown'.out, Hel3.out, hb3, Hv3.out⟩
    · obtain rfl : k = p := by omega
      go_wp2
      go_ret
      have hel := Hel.out
      rw [take_all HD.out.len (by omega)] at hel
      exact ⟨_, vs, rfl, by rw [HD.out.len]; exact Hown.out, fun w2 hg => hel.map_ fun u y hu => RowOwn.slR (OwnAt.kept hu hg (ownAt_ne hu Hown.out (by decide))), hbw, Hob.out⟩
end Go.Proofs.Ytceelipcclfdmaa
