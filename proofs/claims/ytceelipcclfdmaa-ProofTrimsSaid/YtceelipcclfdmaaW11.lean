/- Walks of the reference: proofs are checked. -/
import Derived.Test.YtceelipcclfdmaaW10
namespace Go.Proofs.Ytceelipcclfdmaa
open Go.RowKit

theorem Try.infoSl : (Try.prog.info? 23).map (fun i => (i.zero, i.size, i.bytes)) = some (some (.slice none 0 0), 1, 24) := by kernel_rfl

namespace S
noncomputable def checkOf (cs l : List (List Int)) : Nat × Bool :=
  match bad cs l with
  | some k => (k, false)
  | none => (l.length, decide (l.getLast? = some []))

theorem bad_step {cs l : List (List Int)} {i : Nat} {x : List Int} (h : bad cs l = (bad (cs ++ l.take i) (l.drop i)).map (· + i)) (hx : l[i]? = some x) (hf : fol (cs ++ l.take i) x = true) :
    bad cs l = (bad (cs ++ l.take (i + 1)) (l.drop (i + 1))).map (· + (i + 1)) := by
  have hi : i < l.length := (List.getElem?_eq_some_iff.1 hx).1
  have hd : l.drop i = x :: l.drop (i + 1) := by
    rw [List.drop_eq_getElem_cons hi]; rw [List.getElem?_eq_getElem hi] at hx; cases hx; rfl
  rw [h, hd, bad, if_pos hf, List.take_add_one, hx]
  simp only [Option.map_map, Option.toList_some, List.append_assoc]
  congr 1
  funext k
  simp; omega
theorem bad_stop {cs l : List (List Int)} {i : Nat} {x : List Int} (h : bad cs l = (bad (cs ++ l.take i) (l.drop i)).map (· + i)) (hx : l[i]? = some x) (hf : fol (cs ++ l.take i) x = false) : bad cs l = some i := by
  have hi : i < l.length := (List.getElem?_eq_some_iff.1 hx).1
  have hd : l.drop i = x :: l.drop (i + 1) := by
    rw [List.drop_eq_getElem_cons hi]; rw [List.getElem?_eq_getElem hi] at hx; cases hx; rfl
  rw [h, hd, bad, if_neg (by simp [hf])]
  simp
theorem bad_end {cs l : List (List Int)} {i : Nat} (h : bad cs l = (bad (cs ++ l.take i) (l.drop i)).map (· + i)) (hi : l.length ≤ i) : bad cs l = none := by
  rw [h, List.drop_of_length_le hi]; rfl
end S

def SomeIB (w : World) (r : Nat × Bool) (e : Ending) (w' : World) : Prop := e = .returned (.tuple #[.int .i64 (r.1 : Int), .bool r.2]) ∧ Below w.heap.size w w'
/-- the elements us read, in w, as xs -/
def Elems {α : Type} (R : World → Value → α → Prop) (w : World) (us : List Value) (xs : List α) : Prop := us.length = xs.length ∧ ∀ (k : Nat) (x : α) (u : Value), xs[k]? = some x → us[k]? = some u → R w u x
theorem Elems.snoc {α : Type} {R : World → Value → α → Prop} {w : World} {us : List Value} {xs : List α} {u : Value} {x : α} (h : Elems R w us xs) (hr : R w u x) : Elems R w (us ++ [u]) (xs ++ [x]) := by
  refine ⟨by simp [h.1], fun k y v hy hv => ?_⟩
  by_cases hk : k < xs.length
  · rw [List.getElem?_append_left hk] at hy
    rw [List.getElem?_append_left (by rw [h.1]; exact hk)] at hv
    exact h.2 k y v hy hv
  · rw [List.getElem?_append_right (by omega)] at hy
    rw [List.getElem?_append_right (by rw [h.1]; omega)] at hv
    rw [h.1] at hv
    have : k - xs.length = 0 := by
      have := (List.getElem?_eq_some_iff.1 hy).1
      simp at this; omega
    rw [this] at hy hv
    simp at hy hv
    rw [← hy, ← hv]; exact hr
theorem OwnAt.slElems {α : Type} {R : World → Value → α → Prop} {w0 w : World} {e : TypeId} {A : Option Addr} {n c : Nat} {us : List Value} {xs : List α} (h : OwnAt w e 1 (.slice A n c) n us) (hM : MonoR R) (hb : Below w0.heap.size w0 w) (he : Elems R w0 us xs) : SlAt R w A n xs :=
  h.slAt he.1.symm fun k x u hx hu => hM _ _ _ _ hb (he.2 k x u hx hu)

theorem oneCell_slR {w : World} {u : Value} {xs : List Int} (h : SlR (IntR .i64) w u xs) : u.oneCell' = true := by
  obtain ⟨A, c, rfl, _⟩ := h; rfl


theorem below_append_src {w0 w w' : World} {B : Nat} {v v' : Value} (hb : Below B w0 w) (hB : B ≤ w.heap.size) (hv : ∀ g, v.ownBlock = some g → B ≤ g) (hg : w.grownBy w' v.ownBlock)
    (hat : v'.ownBlock = v.ownBlock ∨ v'.ownBlock = some w.heap.size) : Below B w0 w' ∧ ∀ g, v'.ownBlock = some g → B ≤ g := by
  refine ⟨hb.grown hg hB hv, fun g hgv => ?_⟩
  rcases hat with h | h
  · exact hv g (by rw [← h]; exact hgv)
  · rw [h] at hgv; cases hgv; exact hB

set_option maxRecDepth 100000 in
set_option maxHeartbeats 2000000 in
theorem refCheck_any (n : Nat) (A D : Option Addr) (m c p d : Nat) (cs l : List (List Int)) (w : World) (hA : SlAt (SlR (IntR .i64)) w A m cs) (hD : SlAt (SlR (IntR .i64)) w D p l) (hcs : cs.all (S.isClause n) = true) (hl : l.all (S.isClause n) = true) (hn : n ≤ 4000)
    (hm : m ≤ 100000) (hp : p ≤ 100000) (hlen : ∀ x ∈ l, x.length ≤ 100000000) :
    Calls Try.prog 40 #[.int .i64 n, .slice A m c, .slice D p d] w (SomeIB w (S.checkOf cs l)) := by
  have HA := Lib.hid hA; clear hA
  have HD := Lib.hid hD; clear hD
  have HC := Lib.hid hcs; clear hcs
  have HL := Lib.hid hl; clear hl
  have Hlen := Lib.hid hlen; clear hlen
  obtain ⟨us, hus, hcells, hR⟩ := HA.out.cells
  have Hcells := Lib.hid hcells; clear hcells
  have HE := Lib.hid (show Elems (SlR (IntR .i64)) w us cs from ⟨by rw [hus, HA.out.len], hR⟩); clear hR
  have Hus := Lib.hid hus; clear hus
  have hown0 := OwnAt.of_new (s := 1) (e := 23) w #[] 0 rfl (by simp [maxLen])
  have Hown0 := Lib.hid hown0; clear hown0
  have H1 : ∀ u ∈ us, u.oneCell' = true := by
    intro u hu
    obtain ⟨k, hk, rfl⟩ := List.mem_iff_getElem.1 hu
    have hk2 : k < cs.length := by rw [← HE.out.1]; exact hk
    exact oneCell_slR (HE.out.2 k _ _ (List.getElem?_eq_getElem hk2) (List.getElem?_eq_getElem hk))
  have HH1 := Lib.hid H1; clear H1
  go_enter Try.func40, Try.ntmps40
  go_wp2_with (at_builtin; refine wpList_append_src _ rfl (.tmp 10) (.tmp 11) 22 rfl 23 (.slice none 0 0) 1 24 Try.underlying22 Try.infoSl rfl (by omega) _ 0 _ rfl Hown0.out A m c us rfl (by rw [Hus.out, Nat.mul_one]) (fun j u hu => by
      obtain ⟨ad, he, hc⟩ := Hcells.out j u hu
      refine ⟨ad, he, ?_⟩
      exact (((Below.refl _ _).alloc (Nat.le_refl _) _).cell (World.block_lt_of_cell? _ _ hc)).trans hc) HH1.out (by omega) (by omega) ?_; intro v1 w1 hown1 hgr hat)
  have hbb := below_append_src (B := w.heap.size) (v := .slice (some ⟨w.heap.size, 0, none⟩) 0 0) ((Below.refl w.heap.size w).alloc (Nat.le_refl _) _) (by simp) (fun g hg => Nat.le_of_eq (Option.some.inj hg)) hgr hat
  obtain ⟨hb1, hv1⟩ := hbb
  have Hv1 := Lib.hid hv1; clear hv1 hgr hat
  have hown1' : OwnAt w1 23 1 v1 m us := by simpa using hown1
  have Hown1 := Lib.hid hown1'; clear hown1 hown1'
  go_wp2
  go_loopg [8, 9] (p + 1) (fun g v i wr => ∃ (k : Nat) (vs : List Value), k ≤ p ∧ i = .int .i64 (k : Int) ∧ g + k = p + 1 ∧ OwnAt wr 23 1 v (m + k) vs ∧ Elems (SlR (IntR .i64)) w vs (cs ++ l.take k) ∧ Below w.heap.size w wr ∧ (∀ g, v.ownBlock = some g → w.heap.size ≤ g) ∧ S.bad cs l = (S.bad (cs ++ l.take k) (l.drop k)).map (· + k))
  case atStart => exact ⟨0, us, Nat.zero_le _, rfl, rfl, Hown1.out, by simpa using HE.out, hb1, Hv1.out, by simp⟩
  case round =>
    rename_i v0 _
    obtain ⟨k, vs, hk, rfl, hgk, hown, hel, hbw, hob, hbad⟩ := hrel
    have Hgk := Lib.hid hgk; clear hgk
    have Hown := Lib.hid hown; clear hown
    have Hel := Lib.hid hel; clear hel
    have Hob := Lib.hid hob; clear hob
    have Hbad := Lib.hid hbad; clear hbad hb1
    by_cases hlt : k < p
    · obtain ⟨x, b, off, u, hx, rfl, _, h1, A1, c1, rfl, s1⟩ := (HD.out.below (monoSl (monoInt _)) hbw).at_ hlt
      obtain ⟨A2, c2, rfl⟩ := Hown.out.form
      have hxm := List.mem_of_getElem? hx
      have con := refFollows_any n A2 A1 (m + k) c2 x.length c1 (cs ++ l.take k) x wr (Hown.out.slElems (monoSl (monoInt _)) hbw Hel.out) s1 (by
        rw [List.all_append, HC.out, Bool.true_and, List.all_eq_true]
        intro y hy
        exact List.all_eq_true.1 HL.out y (List.mem_of_mem_take hy)) (List.all_eq_true.1 HL.out x hxm) hn (Hlen.out x hxm)
      have hrow : SlR (IntR .i64) w (.slice A1 x.length c1) x := by
        obtain ⟨b', off', u', hD', hlt', hc', hr'⟩ := HD.out.2.2 k x hx
        cases hD'
        have hsame := (hbw.cell (p := ⟨b, off + k, none⟩) hlt').trans hc'
        rw [h1] at hsame
        cases hsame
        exact hr'
      have Hrow := Lib.hid hrow; clear hrow s1 hxm
      have Hx := Lib.hid hx; clear hx
      cases hf : S.fol (cs ++ l.take k) x
      · rw [hf] at con
        have Hcon := Lib.hid con; clear con
        have Hf := Lib.hid hf; clear hf
        go_wp2_with fail
        refine Hcon.out.mono ?_
        rintro e w' ⟨rfl, hb2⟩
        go_wp2
        go_ret2
        rw [S.checkOf, S.bad_stop Hbad.out Hx.out Hf.out]
        exact ⟨rfl, hbw.trans (hb2.mono hbw.size)⟩
      · rw [hf] at con
        have Hcon := Lib.hid con; clear con
        have Hf := Lib.hid hf; clear hf
        go_wp2_with fail
        refine Hcon.out.mono ?_
        rintro e w2 ⟨rfl, hb2⟩
        have hbw2 := hbw.trans (hb2.mono hbw.size)
        have hown2 := Hown.out.below hb2 Hown.out.lt
        have Hown2 := Lib.hid hown2; clear hown2
        have h12 := (hb2.cell (World.block_lt_of_cell? _ _ h1)).trans h1
        clear h1
        go_wp2_with (at_builtin; refine wpList_append_one _ rfl (.tmp 28) (.tmp 33) 22 rfl 23 (.slice none 0 0) 24 Try.underlying22 Try.infoSl rfl _ (m + k) _ rfl Hown2.out (.slice A1 x.length c1) rfl 23 rfl (by omega) (by omega) ?_; intro v' w3 hown' hgr hat)
        have Hown' := Lib.hid hown'; clear hown'
        obtain ⟨hb3, hv3⟩ := below_append hbw2 hbw2.size Hob.out hgr hat
        have Hv3 := Lib.hid hv3; clear hv3 hgr hat
        go_wp2
        go_roundg (gk - 1)
        case measure => have := Hgk.out; omega
        case rel =>
          have := Hgk.out
          exact ⟨k + 1, _, by omega, by go_num, by omega, Hown'.out, by rw [take_succ_of Hx.out, ← List.append_assoc]; exact Hel.out.snoc Hrow.out, hb3, Hv3.out, S.bad_step Hbad.out Hx.out Hf.out⟩
    · obtain rfl : k = p := by omega
      have hnone := S.bad_end Hbad.out (by rw [HD.out.len]; omega)
      have Hnone := Lib.hid hnone; clear hnone
      have HDl := Lib.hid HD.out.len
      by_cases hp0 : k = 0
      · subst hp0
        go_wp2
        go_quiet (fail)
        go_wp2
        go_ret2
        rw [S.checkOf, Hnone.out]
        have : l = [] := List.eq_nil_of_length_eq_zero HDl.out
        exact ⟨by rw [this]; rfl, hbw.dr ((Dr.refl _).drewN _)⟩
      · obtain ⟨q, rfl⟩ : ∃ q, k = q + 1 := ⟨k - 1, by omega⟩
        clear hp0
        obtain ⟨x, b, off, u, hx, rfl, _, h1, A1, c1, rfl, s1⟩ := (HD.out.below (monoSl (monoInt _)) hbw).at_ (show q < q + 1 by omega)
        have hlast : l.getLast? = some x := by rw [List.getLast?_eq_getElem?, HDl.out]; simpa using hx
        have Hlast := Lib.hid hlast; clear hlast hx
        have hwr : IntKind.i64.wrap (q : Int) = q := IntWalk.i64_in _ (by omega)
        have hxl := s1.le
        clear s1
        have hq : q < q + 1 := by omega
        by_cases hx0 : x.length = 0
        · have hb : ((x.length : Int) == 0) = true := by simp [hx0]
          have Hx0 := Lib.hid hx0; clear hx0
          go_wp2
          go_quiet (fail)
          go_wp2
          go_ret2
          rw [S.checkOf, Hnone.out]
          have hxn : x = [] := List.eq_nil_of_length_eq_zero Hx0.out
          refine ⟨?_, hbw.dr ((Dr.refl _).drewN _)⟩
          rw [Hlast.out, hxn, HDl.out]
          rfl
        · have hb : ((x.length : Int) == 0) = false := by simp [hx0]
          have Hx0 := Lib.hid hx0; clear hx0
          go_wp2
          go_quiet (fail)
          go_wp2
          go_ret2
          rw [S.checkOf, Hnone.out]
          refine ⟨?_, hbw.dr ((Dr.refl _).drewN _)⟩
          rw [Hlast.out, HDl.out, decide_eq_false (by intro e; cases e; exact Hx0.out rfl)]
          rfl
end Go.Proofs.Ytceelipcclfdmaa
