/- Walks of the reference: clauses that follow. -/
import Derived.Test.YtceelipcclfdmaaW8
namespace Go.Proofs.Ytceelipcclfdmaa
open Go.RowKit

namespace S
/-- A clause with both literals of a variable follows. -/
theorem incons_both {cs : List (List Int)} {c : List Int} {l : Int} (h : l ∈ c) (h' : -l ∈ c) : Incons cs (negs c) :=
  incons_of (l := -l) (.given_ (List.mem_map.2 ⟨l, h, rfl⟩)) (.given_ (List.mem_map.2 ⟨-l, h', by simp⟩))
theorem isClause_negs {n : Int} {c : List Int} (h : isClause n c = true) : isClause n (negs c) = true := by
  unfold isClause negs at *
  rw [List.all_eq_true] at h ⊢
  intro x hx
  obtain ⟨y, hy, rfl⟩ := List.mem_map.1 hx
  exact isLit_neg (h y hy)
theorem negs_take (c : List Int) (k : Nat) : (negs c).take k = negs (c.take k) := by simp [negs, List.map_take]
end S

theorem OwnAt.appended {w' : World} {e : TypeId} {v' : Value} {n : Nat} {q : IntKind} {ys : List Int} {x : Int} (h : OwnAt w' e 1 v' (n + 1) (ys.map (Value.int q) ++ [.int q x])) : OwnAt w' e 1 v' (n + 1) ((ys ++ [x]).map (Value.int q)) := by
  simpa using h

theorem below_append {w0 w w' : World} {B : Nat} {v v' : Value} {o : Obj} (hb : Below B w0 w) (hB : B ≤ w.heap.size) (hv : ∀ g, v.ownBlock = some g → B ≤ g) (hg : (w.alloc o).grownBy w' v.ownBlock)
    (hat : v'.ownBlock = v.ownBlock ∨ v'.ownBlock = some (w.heap.size + 1)) : Below B w0 w' ∧ ∀ g, v'.ownBlock = some g → B ≤ g := by
  refine ⟨(hb.alloc hB o).grown hg (by simp; omega) hv, fun g hgv => ?_⟩
  rcases hat with h | h
  · exact hv g (by rw [← h]; exact hgv)
  · rw [h] at hgv; cases hgv; omega

def SomeBool (w : World) (b : Bool) (e : Ending) (w' : World) : Prop := e = .returned (.bool b) ∧ Below w.heap.size w w'

set_option maxHeartbeats 2000000 in
theorem refFollows_any (n : Nat) (A D : Option Addr) (m c p d : Nat) (cs : List (List Int)) (cl : List Int) (w : World) (hA : SlAt (SlR (IntR .i64)) w A m cs) (hD : SlAt (IntR .i64) w D p cl) (hcs : cs.all (S.isClause n) = true) (hg : S.isClause n cl = true) (hn : n ≤ 4000) (hp : p ≤ 100000000) :
    Calls Try.prog 42 #[.int .i64 n, .slice A m c, .slice D p d] w (SomeBool w (S.fol cs cl)) := by
  have hl := hA.le
  have HA := Lib.hid hA; clear hA
  have HD := Lib.hid hD; clear hD
  have HC := Lib.hid hcs; clear hcs
  have HG := Lib.hid hg; clear hg
  have Hcl := Lib.hid HD.out.len
  go_enter Try.func42, Try.ntmps42
  go_wp2
  go_loopg [7, 8] (p + 1) (fun g v i wr => ∃ k : Nat, k ≤ p ∧ i = .int .i64 k ∧ g + k = p + 1 ∧ OwnAt wr 3 1 v k ((S.negs (cl.take k)).map (Value.int .i64)) ∧ Below w.heap.size w wr ∧ (∀ g, v.ownBlock = some g → w.heap.size ≤ g))
  case atStart => exact ⟨0, Nat.zero_le _, rfl, rfl, OwnAt.nil_ _ _ _, Below.refl _ _, fun g hg => by simp [Value.ownBlock] at hg⟩
  case round =>
    rename_i v0 _
    obtain ⟨k, hk, rfl, hgk, hown, hbw, hob⟩ := hrel
    have Hgk := Lib.hid hgk; clear hgk
    have Hown := Lib.hid hown; clear hown
    have Hob := Lib.hid hob; clear hob
    by_cases hlt : k < p
    · obtain ⟨x, b, off, u, hx, rfl, _, h1, rfl⟩ := (HD.out.below (monoInt _) hbw).at_ hlt
      obtain ⟨hx1, hx2, hx3⟩ := isLit_wf ⟨by omega, by omega⟩ (lit_at HG.out hx)
      have con := refHas_any (some ⟨b, off, none⟩) p d cl (-x) wr (HD.out.below (monoInt _) hbw)
      have Hx := Lib.hid hx; clear hx
      by_cases hmem : -x ∈ cl
      · rw [decide_eq_true hmem] at con
        have Hcon := Lib.hid con; clear con
        have Hm := Lib.hid hmem; clear hmem
        go_wp2_with fail
        refine Hcon.out.mono ?_
        rintro e w' ⟨rfl, rfl⟩
        go_wp2
        go_ret
        exact ⟨ret_bool (S.fol_iff.2 (S.incons_both (List.mem_of_getElem? Hx.out) Hm.out)).symm, hbw⟩
      · rw [decide_eq_false hmem] at con
        have Hcon := Lib.hid con; clear con
        clear hmem
        go_wp2_with fail
        refine Hcon.out.mono ?_
        rintro e w' ⟨rfl, rfl⟩
        go_wp2_with (at_builtin; refine wpList_append_one _ rfl (.tmp 22) (.tmp 28) 23 rfl 3 (.int .i64 0) 8 Try.underlying23 Try.infoInt rfl _ k _ rfl Hown.out (.int .i64 (-x)) rfl 3 rfl (by omega) (by omega) ?_; intro v' w1 hown' hgr hat)
        have Hown' := Lib.hid hown'.appended; clear hown'
        obtain ⟨hb1, hv1⟩ := below_append hbw hbw.size Hob.out hgr hat
        have Hv1 := Lib.hid hv1; clear hv1 hgr hat
        go_wp2
        go_roundg (gk - 1)
        case measure => have := Hgk.out; omega
        case rel =>
          have := Hgk.out
          refine ⟨k + 1, by omega, by go_num, by omega, ?_, hb1, Hv1.out⟩
          have h3 := Hown'.out
          rw [take_succ_of Hx.out]
          simpa [S.negs] using h3
    · have hneg : (S.negs cl).length = p := by simp [S.negs]; exact Hcl.out
      have hown := Hown.out
      rw [take_all HD.out.len (by omega)] at hown
      obtain ⟨A2, c2, rfl⟩ := hown.form
      obtain rfl : k = p := by omega
      have con := units_any n A A2 m c k c2 cs (S.negs cl) wr (HA.out.below (monoSl (monoInt _)) hbw) hown.slInts HC.out (S.isClause_negs HG.out) hn
      have Hcon := Lib.hid con; clear con
      clear hown
      go_wp2_with fail
      refine Hcon.out.mono ?_
      rintro e w' ⟨B, O, of, conf, rfl, hst, hb2, hpost⟩
      have HP := Lib.hid hpost; clear hpost
      have hc1 := hst.c1
      clear hst
      go_wp2
      go_ret
      refine ⟨ret_bool ?_, hbw.trans (hb2.mono hbw.size)⟩
      rcases HP.out.2 with ⟨rfl, h⟩ | ⟨rfl, h, _⟩
      · exact (S.fol_iff.2 h).symm
      · cases hf : S.fol cs cl
        · rfl
        · exact absurd (S.fol_iff.1 hf) h

/-- A list of one clause, as the text builds it. -/
theorem slOne {w : World} {A : Option Addr} {n c : Nat} {xs : List Int} (h : SlAt (IntR .i64) w A n xs) (t : TypeId) : SlAt (SlR (IntR .i64)) (w.alloc (.cells #[.slice A n c] t)) (some ⟨w.heap.size, 0, none⟩) 1 [xs] := by
  refine ⟨rfl, by omega, fun k x hx => ?_⟩
  match k, hx with
  | 0, hx =>
    simp at hx
    subst hx
    refine ⟨w.heap.size, 0, .slice A n c, rfl, by simp, cell_alloc_box w _ t, ?_⟩
    exact (SlR.mk_ h).imp fun A' hh => hh.imp fun c' hc => ⟨hc.1, hc.2.below (monoInt _) ((Below.refl _ _).alloc (Nat.le_refl _) _)⟩

namespace S
noncomputable def followsOf (n : Int) (cs : List (List Int)) (cl : List Int) : Bool × Int :=
  if validate n cs ≠ 0 then (false, validate n cs) else if validate n [cl] ≠ 0 then (false, validate n [cl]) else (fol cs cl, 0)
end S
theorem ret_tupbi {j : IntKind} {a a' : Bool} {b b' : Int} (h : a = a') (h' : b = b') : Ending.returned (.tuple #[.bool a, .int j b]) = .returned (.tuple #[.bool a', .int j b']) := by rw [h, h']
def SomeBE (w : World) (b : Bool) (x : Int) (e : Ending) (w' : World) : Prop := e = .returned (.tuple #[.bool b, .int .i64 x]) ∧ Below w.heap.size w w'

set_option maxHeartbeats 1000000 in
theorem refFollowsE_any (n : Int) (A D : Option Addr) (m c p d : Nat) (cs : List (List Int)) (cl : List Int) (w : World) (hA : SlAt (SlR (IntR .i64)) w A m cs) (hD : SlAt (IntR .i64) w D p cl) (hp : p ≤ 100000000) :
    Calls Try.prog 19 #[.int .i64 n, .slice A m c, .slice D p d] w (SomeBE w (S.followsOf n cs cl).1 (S.followsOf n cs cl).2) := by
  have Hcon := Lib.hid (refValidate_any n A m c cs w hA)
  have Hcon2 := Lib.hid (refValidate_any n (some ⟨w.heap.size, 0, none⟩) 1 1 [cl] (w.alloc (.cells #[.slice D p d] 23)) (slOne hD _))
  have HA := Lib.hid hA; clear hA
  have HD := Lib.hid hD; clear hD
  obtain ⟨v, hv⟩ : ∃ v, v = S.validate n cs := ⟨_, rfl⟩
  obtain ⟨v2, hv2⟩ : ∃ v, v = S.validate n [cl] := ⟨_, rfl⟩
  rw [← hv] at Hcon
  rw [← hv2] at Hcon2
  by_cases h0 : v = 0
  · by_cases h2 : v2 = 0
    · subst h0
      subst h2
      obtain ⟨hn0, hn4, _, hcl⟩ := validate_zero hv.symm
      obtain ⟨_, _, _, hcl2⟩ := validate_zero hv2.symm
      obtain ⟨N, rfl⟩ : ∃ N : Nat, n = N := ⟨n.toNat, by omega⟩
      have hb : Below w.heap.size w (w.alloc (.cells #[.slice D p d] 23)) := (Below.refl _ _).alloc (Nat.le_refl _) _
      have Hcon3 := Lib.hid (refFollows_any N A D m c p d cs cl (w.alloc (.cells #[.slice D p d] 23)) (HA.out.below (monoSl (monoInt _)) hb) (HD.out.below (monoInt _) hb) hcl (by simpa using hcl2) (by omega) hp)
      have e1 : S.followsOf (N : Int) cs cl = (S.fol cs cl, 0) := by rw [S.followsOf, if_neg (by rw [← hv]; simp), if_neg (by rw [← hv2]; simp)]
      rw [e1]
      clear hv hv2 hcl hcl2 e1
      go_enter Try.func19, Try.ntmps19
      go_wp2_with fail
      refine Hcon.out.mono ?_
      rintro e w' ⟨rfl, rfl⟩
      go_wp2_with fail
      refine Hcon2.out.mono ?_
      rintro e w' ⟨rfl, rfl⟩
      go_wp2_with fail
      refine Hcon3.out.mono ?_
      rintro e w' ⟨rfl, hb3⟩
      go_wp2
      go_ret2
      exact ⟨rfl, hb.trans (hb3.mono (by simp))⟩
    · subst h0
      have hb : (v2 != 0) = true := by simpa using h2
      have e1 : S.followsOf n cs cl = (false, v2) := by rw [S.followsOf, if_neg (by rw [← hv]; simp), if_pos (by rw [← hv2]; exact h2), hv2]
      rw [e1]
      clear hv hv2 e1 h2
      go_enter Try.func19, Try.ntmps19
      go_wp2_with fail
      refine Hcon.out.mono ?_
      rintro e w' ⟨rfl, rfl⟩
      go_wp2_with fail
      refine Hcon2.out.mono ?_
      rintro e w' ⟨rfl, rfl⟩
      go_wp2
      go_ret2
      exact ⟨rfl, (Below.refl _ _).alloc (Nat.le_refl _) _⟩
  · have hb : (v != 0) = true := by simpa using h0
    have e1 : S.followsOf n cs cl = (false, v) := by rw [S.followsOf, if_pos (by rw [← hv]; exact h0), hv]
    rw [e1]
    clear hv hv2 e1 h0
    go_enter Try.func19, Try.ntmps19
    go_wp2_with fail
    refine Hcon.out.mono ?_
    rintro e w' ⟨rfl, rfl⟩
    go_wp2
    go_ret2
    exact ⟨rfl, Below.refl _ _⟩
end Go.Proofs.Ytceelipcclfdmaa
