/- Merged: QPlainG, QT2, QT3, QT4, QPlainT2, QT5, QT6, QT7. -/
import Derived.Test.YtbiopedpceddeaaGreatDoorN05
import Derived.Test.YtbiopedpceddeaaGreatDoorN04
import Derived.Test.YtbiopedpceddeaaGreatDoorN03
set_option linter.unusedVariables false
set_option linter.unusedSimpArgs false
section
namespace Go.Proofs.YtbiopedpceddeaaGreatDoor
set_option linter.unusedVariables false
set_option linter.unusedSimpArgs false
namespace T

/-- a way to tell a node -/
structure MkOk (mk : Nd → List Nd → List Nd × Int) : Prop where
  told : ∀ {out : List Nd} {x : Nd}, out.Nodup → Ord out → (∀ a ∈ x.args, 0 ≤ a ∧ a < (out.length : Int)) →
    out <+: (mk x out).1 ∧ (mk x out).1.Nodup ∧ Ord (mk x out).1 ∧ 0 ≤ (mk x out).2 ∧ (mk x out).2 < ((mk x out).1.length : Int)
  again : ∀ {out u : List Nd} {x : Nd}, out.Nodup → Ord out → (∀ a ∈ x.args, 0 ≤ a ∧ a < (out.length : Int)) → (mk x out).1 <+: u → u.Nodup → Ord u → mk x u = (u, (mk x out).2)

def cnnG (mk : Nd → List Nd → List Nd × Int) : F → List Nd → List Nd × List Int
  | .nil, out => (out, [])
  | .cons op w fl imm kids rest, out =>
    ((cnnG mk rest (mk ⟨op, w, fl, (cnnG mk kids out).2, imm⟩ (cnnG mk kids out).1).1).1,
      (mk ⟨op, w, fl, (cnnG mk kids out).2, imm⟩ (cnnG mk kids out).1).2 :: (cnnG mk rest (mk ⟨op, w, fl, (cnnG mk kids out).2, imm⟩ (cnnG mk kids out).1).1).2)

structure ToldG (out : List Nd) (r : List Nd × List Int) : Prop where
  pre : out <+: r.1
  nd : r.1.Nodup
  ord : Ord r.1
  lo : ∀ a ∈ r.2, 0 ≤ a ∧ a < (r.1.length : Int)

section
variable {mk : Nd → List Nd → List Nd × Int}

theorem cnnG_told (ok : MkOk mk) (f : F) : ∀ {out : List Nd}, out.Nodup → Ord out → ToldG out (cnnG mk f out) := by
  induction f with
  | nil => intro out hn ho; exact ⟨List.prefix_rfl, hn, ho, fun a ha => by simp [cnnG] at ha⟩
  | cons op w fl imm kids rest ih1 ih2 =>
    intro out hn ho
    obtain ⟨p1, n1, o1, l1⟩ := ih1 hn ho
    simp only [cnnG]
    generalize hc1 : cnnG mk kids out = c1 at *
    obtain ⟨p2, n2, o2, z2, l2⟩ := ok.told (x := ⟨op, w, fl, c1.2, imm⟩) n1 o1 l1
    generalize hc2 : mk ⟨op, w, fl, c1.2, imm⟩ c1.1 = c2 at *
    obtain ⟨p3, n3, o3, l3⟩ := ih2 n2 o2
    generalize hc3 : cnnG mk rest c2.1 = c3 at *
    refine ⟨(p1.trans p2).trans p3, n3, o3, ?_⟩
    intro a ha
    rcases List.mem_cons.1 ha with rfl | ha
    · have := pre_le p3; dsimp only; omega
    · exact l3 a ha

theorem cnnG_again (ok : MkOk mk) (f : F) : ∀ {out u : List Nd}, out.Nodup → Ord out → (cnnG mk f out).1 <+: u → u.Nodup → Ord u → cnnG mk f u = (u, (cnnG mk f out).2) := by
  induction f with
  | nil => intro out u _ _ _ _ _; rfl
  | cons op w fl imm kids rest ih1 ih2 =>
    intro out u hn ho hp hu ou
    have t1 := cnnG_told ok kids hn ho
    simp only [cnnG] at hp ⊢
    have t2 := ok.told (x := ⟨op, w, fl, (cnnG mk kids out).2, imm⟩) t1.nd t1.ord t1.lo
    have t3 := cnnG_told ok rest t2.2.1 t2.2.2.1
    have e1 := ih1 hn ho (t2.1.trans (t3.pre.trans hp)) hu ou
    have e2 := ok.again (x := ⟨op, w, fl, (cnnG mk kids out).2, imm⟩) t1.nd t1.ord t1.lo (t3.pre.trans hp) hu ou
    have e3 := ih2 t2.2.1 t2.2.2.1 hp hu ou
    rw [e1]
    simp only [e2, e3]

theorem cnnG_app (f g : F) : ∀ (out : List Nd), cnnG mk (f.app g) out = ((cnnG mk g (cnnG mk f out).1).1, (cnnG mk f out).2 ++ (cnnG mk g (cnnG mk f out).1).2) := by
  induction f with
  | nil => intro out; rfl
  | cons op w fl imm kids rest _ ih2 => intro out; simp only [F.app, cnnG, ih2]; rfl
end

/-- the plain way -/
def mkA (x : Nd) (out : List Nd) : List Nd × Int := addN out x

theorem cnnG_A (f : F) : ∀ (out : List Nd), cnnG mkA f out = cnn f out := by
  induction f with
  | nil => intro out; rfl
  | cons op w fl imm kids rest ih1 ih2 => intro out; simp only [cnnG, cnn, ih1, ih2, mkA]

theorem addN_again {out u : List Nd} {y : Nd} (hn : out.Nodup) (hp : (addN out y).1 <+: u) (hu : u.Nodup) : addN u y = (u, (addN out y).2) := by
  obtain ⟨_, _, h0, _, hy⟩ := addN_spec (y := y) hn
  have hy := pre_at hp _ _ hy
  obtain ⟨hm, hi⟩ := idx_at hu hy
  unfold addN at hi h0 ⊢
  rw [if_pos hm, hi, Int.toNat_of_nonneg h0]

theorem mkA_ok : MkOk mkA := by
  constructor
  · intro out x hn ho hx
    obtain ⟨h1, h2, h3, h4, _⟩ := addN_spec (y := x) hn
    exact ⟨h1, h2, addN_ord ho hx, h3, h4⟩
  · intro out u x hn ho hx hp hu _
    exact addN_again hn hp hu

/-- one tree -/
def One (f : F) : Prop := ∃ op w fl imm kids, f = .cons op w fl imm kids .nil

theorem One.told {f : F} (h : One f) (out : List Nd) : ∃ n, (cnn f out).2 = [n] := by
  obtain ⟨op, w, fl, imm, kids, rfl⟩ := h
  exact ⟨_, rfl⟩

/-- the way that puts a tree for each variable -/
def mkS (b : Int → F) (x : Nd) (out : List Nd) : List Nd × Int := if x.op = 33 then ((cnn (b x.imm) out).1, (cnn (b x.imm) out).2.headD 0) else addN out x

theorem cnn_again (f : F) {out u : List Nd} (hn : out.Nodup) (ho : Ord out) (hp : (cnn f out).1 <+: u) (hu : u.Nodup) (ou : Ord u) : cnn f u = (u, (cnn f out).2) := by
  rw [← cnnG_A, ← cnnG_A] at *
  exact cnnG_again mkA_ok f hn ho hp hu ou

theorem mkS_ok {b : Int → F} (hb : ∀ i, One (b i)) : MkOk (mkS b) := by
  constructor
  · intro out x hn ho hx
    unfold mkS
    split
    · have t := cnn_told (b x.imm) hn ho
      obtain ⟨n, e⟩ := (hb x.imm).told out
      have := t.lo n (by rw [e]; simp)
      refine ⟨t.pre, t.nd, t.ord, ?_⟩
      rw [e]
      exact this
    · exact mkA_ok.told hn ho hx
  · intro out u x hn ho hx hp hu ou
    unfold mkS at hp ⊢
    split
    · rename_i e
      rw [if_pos e] at hp
      have := cnn_again (b x.imm) hn ho hp hu ou
      rw [this]
    · rename_i e
      rw [if_neg e] at hp
      exact mkA_ok.again hn ho hx hp hu ou
end T

namespace R
open T (Nd F)
/-- in a pattern variables have no operands -/
def Leafy : F → Prop
  | .nil => True
  | .cons op _ _ _ kids rest => (op = 33 → kids = .nil) ∧ Leafy kids ∧ Leafy rest

theorem cnnG_S {b : Int → F} (hb : ∀ i, T.One (b i)) (f : F) (hf : Leafy f) : ∀ (out : List Nd), T.cnnG (T.mkS b) f out = T.cnn (sub b f) out := by
  induction f with
  | nil => intro out; rfl
  | cons op w fl imm kids rest ih1 ih2 =>
    intro out
    obtain ⟨h0, h1, h2⟩ := hf
    simp only [T.cnnG, sub]
    by_cases e : op = 33
    · obtain rfl := h0 e
      obtain ⟨n, hn⟩ := (hb imm).told out
      rw [if_pos e, T.cnn_app]
      simp only [T.cnnG, T.mkS, if_pos e, ih2 h2, hn]
      rfl
    · rw [if_neg e]
      simp only [T.mkS, if_neg e, T.cnn, ih1 h1, ih2 h2]
end R
end Go.Proofs.YtbiopedpceddeaaGreatDoor
end
section
namespace Go.Proofs.YtbiopedpceddeaaGreatDoor
open Go.RowKit
set_option linter.unusedVariables false
set_option linter.unusedSimpArgs false

/-- a function value answers p x at x, and turns nothing -/
def Answers (f : FuncId) (caps : Array Value) (p : Int → Bool) (w : World) : Prop := (∀ args W', (callFunc f args).run Tryz.prog W' = .ok (.enter f args) W') ∧ ∀ x, Calls Tryz.prog f (#[.int .i64 x] ++ caps) w fun e w' => e = .returned (.bool (p x)) ∧ w = w'

set_option maxHeartbeats 400000 in
theorem idxF_any (f : FuncId) (caps : Array Value) (p : Int → Bool) (A : Option Addr) (m c : Nat) (xs : List Int) (w : World) (hA : SlAt (IntR .i64) w A m xs) (hf : Answers f caps p w) :
    Calls Tryz.prog 245 #[.slice A m c, .func (.func f) #[] caps] w fun e w' => ∃ r : Int, e = .returned (.int .i64 r) ∧ decide (0 ≤ r) = xs.any p ∧ -1 ≤ r ∧ w = w' := by
  have hl := hA.le
  have HA := Lib.hid hA; clear hA
  have HP := Lib.hid hf.2
  have hen := hf.1
  clear hf
  go_enter Tryz.func245, Tryz.ntmps245
  go_wp2
  go_loop [8] (fun i => ∃ k : Nat, k ≤ m ∧ i = .int .i64 k ∧ Hid ((xs.take k).any p = false)) (fun i => m - (intOf i).toNat)
  case atStart => exact ⟨0, Nat.zero_le _, rfl, rfl⟩
  case round =>
    obtain ⟨k, hk, rfl, HT⟩ := hrel
    by_cases hlt : k < m
    · obtain ⟨x, b, off, u, hx, rfl, _, h1, rfl⟩ := HA.out.at_ hlt
      have con := HP.out x
      have Hx := Lib.hid hx; clear hx
      cases hpx : p x
      · rw [hpx] at con
        have Hcon := Lib.hid con; clear con
        have Hpx := Lib.hid hpx; clear hpx
        go_wp2_with fail
        (with_reducible refine Hcon.out.mono ?_)
        rintro e w' ⟨rfl, rfl⟩
        go_wp2
        go_round
        case rel => exact ⟨k + 1, by omega, by go_num, any_take_step Hx.out HT.out Hpx.out⟩
        case measure => simp [intOf]; omega
      · rw [hpx] at con
        have Hcon := Lib.hid con; clear con
        have Hpx := Lib.hid hpx; clear hpx
        go_wp2_with fail
        (with_reducible refine Hcon.out.mono ?_)
        rintro e w' ⟨rfl, rfl⟩
        go_wp2
        go_ret
        exact ⟨_, rfl, by rw [any_true_at Hx.out Hpx.out]; simp, by omega, rfl⟩
    · go_wp2
      go_ret
      have h3 := HT.out
      rw [take_all HA.out.len (by omega)] at h3
      exact ⟨_, rfl, by rw [h3]; rfl, by omega, rfl⟩

set_option maxHeartbeats 400000 in
theorem hasF_any (f : FuncId) (caps : Array Value) (p : Int → Bool) (A : Option Addr) (m c : Nat) (xs : List Int) (w : World) (hA : SlAt (IntR .i64) w A m xs) (hf : Answers f caps p w) :
    Calls Tryz.prog 194 #[.slice A m c, .func (.func f) #[] caps] w fun e w' => e = .returned (.bool (xs.any p)) ∧ w = w' := by
  have Hcon := Lib.hid (idxF_any f caps p A m c xs w hA hf); clear hA hf
  go_enter Tryz.func194, Tryz.ntmps194
  go_wp2_with fail
  (with_reducible refine Hcon.out.mono ?_)
  rintro e w' ⟨r, rfl, hr, hr1, rfl⟩
  have Hr := Lib.hid hr; clear hr
  go_wp2
  go_ret
  exact ⟨ret_bool (by rw [← Hr.out]), rfl⟩

end Go.Proofs.YtbiopedpceddeaaGreatDoor
end
section
namespace Go.Proofs.YtbiopedpceddeaaGreatDoor
open Go.RowKit
set_option linter.unusedVariables false
set_option linter.unusedSimpArgs false

theorem argsOk_any (k : Nat) (l : List Int) : T.argsOk k l = !(l.any fun a => !(decide (0 ≤ a) && decide (a < k))) := by
  unfold T.argsOk
  rw [List.not_any_eq_all_not]
  congr 1
  funext a
  simp

end Go.Proofs.YtbiopedpceddeaaGreatDoor
end
section
namespace Go.Proofs.YtbiopedpceddeaaGreatDoor
open Go.RowKit
set_option linter.unusedVariables false
set_option linter.unusedSimpArgs false

/-- the cells of a node in a list of nodes -/
theorem nd_cells {W : World} {At : Option Addr} {n : Nat} {t : List T.Nd} (h : StAt 5 NdR W At n t) {j : Nat} (hj : j < n) : ∃ x b off A c, t[j]? = some x ∧ At = some ⟨b, off, none⟩ ∧ b < W.heap.size ∧
    W.cell? ⟨b, off + j * 5, none⟩ = some (.int .i64 x.op) ∧ W.cell? ⟨b, off + j * 5 + 1, none⟩ = some (.int .i64 x.w) ∧ W.cell? ⟨b, off + j * 5 + 2, none⟩ = some (.int .i64 x.fl) ∧ W.cell? ⟨b, off + j * 5 + 3, none⟩ = some (.slice A x.args.length c) ∧ W.cell? ⟨b, off + j * 5 + 4, none⟩ = some (.int .u32 x.imm) ∧
    SlAt (IntR .i64) W A x.args.length x.args ∧ 0 ≤ x.imm ∧ x.imm < 4294967296 := by
  obtain ⟨x, b, off, us, hx, hA, hb, _, hc, A, c, rfl, hs, h1, h2⟩ := h.at_ hj
  refine ⟨x, b, off, A, c, hx, hA, hb, ?_, ?_, ?_, ?_, ?_, hs, h1, h2⟩
  · have := hc 0 _ rfl; rwa [Nat.add_zero] at this
  · exact hc 1 _ rfl
  · exact hc 2 _ rfl
  · exact hc 3 _ rfl
  · exact hc 4 _ rfl

theorem getD_of {α : Type} {l : List α} {j : Nat} {x d : α} (h : l[j]? = some x) : l.getD j d = x := by rw [List.getD_eq_getElem?_getD, h]; rfl

theorem typed_cases (op : Int) : (1 ≤ op ∧ op ≤ 13) ∨ op = 14 ∨ op = 15 ∨ op = 16 ∨ op = 17 ∨ op = 18 ∨ (¬ (1 ≤ op ∧ op ≤ 13) ∧ op ≠ 14 ∧ op ≠ 15 ∧ op ≠ 16 ∧ op ≠ 17 ∧ op ≠ 18) := by omega
/-- what typed says where an operation is known -/
theorem typed_13 {t : List T.Nd} {x : T.Nd} (h : 1 ≤ x.op ∧ x.op ≤ 13) : T.typed t x = (decide (T.wd t x 0 = x.w) && decide (T.wd t x 1 = x.w)) := by unfold T.typed; rw [if_pos h]
theorem typed_14 {t : List T.Nd} {x : T.Nd} (h : x.op = 14) : T.typed t x = decide (T.wd t x 0 = T.wd t x 1) := by unfold T.typed; rw [if_neg (by omega), if_pos h]
theorem typed_15 {t : List T.Nd} {x : T.Nd} (h : x.op = 15) : T.typed t x = (decide (T.wd t x 0 = 1) && decide (T.wd t x 1 = x.w) && decide (T.wd t x 2 = x.w)) := by unfold T.typed; rw [if_neg (by omega), if_neg (by omega), if_pos h]
theorem typed_16 {t : List T.Nd} {x : T.Nd} (h : x.op = 16 ∨ x.op = 17) : T.typed t x = decide (T.wd t x 0 < x.w) := by unfold T.typed; rw [if_neg (by omega), if_neg (by omega), if_neg (by omega), if_pos h]
theorem typed_18 {t : List T.Nd} {x : T.Nd} (h : x.op = 18) : T.typed t x = decide (x.w < T.wd t x 0) := by unfold T.typed; rw [if_neg (by omega), if_neg (by omega), if_neg (by omega), if_neg (by omega), if_pos h]
theorem typed_else {t : List T.Nd} {x : T.Nd} (h : ¬ (1 ≤ x.op ∧ x.op ≤ 13) ∧ x.op ≠ 14 ∧ x.op ≠ 15 ∧ x.op ≠ 16 ∧ x.op ≠ 17 ∧ x.op ≠ 18) : T.typed t x = true := by
  unfold T.typed; rw [if_neg h.1, if_neg h.2.1, if_neg h.2.2.1, if_neg (by omega), if_neg h.2.2.2.2.2]

end Go.Proofs.YtbiopedpceddeaaGreatDoor
end
section
namespace Go.Proofs.YtbiopedpceddeaaGreatDoor.T
set_option linter.unusedVariables false
set_option linter.unusedSimpArgs false
/-- what is asked of the nodes where their variables are gone through -/
def okVars (t : List Nd) : Prop := ∀ y ∈ t, 0 ≤ y.imm ∧ (y.op = 33 → y.imm < 4 ∧ 1 ≤ y.w)
theorem okVars.take {t : List Nd} (h : okVars t) (j : Nat) : okVars (t.take j) := fun y hy => h y (List.mem_of_mem_take hy)
theorem widths_mem {t : List Nd} {v : Nat} {z : Int} : (widths t)[v]? = some z → z ≠ 0 → ∃ (i : Nat) (y : Nd), t[i]? = some y ∧ y.op = 33 ∧ y.imm.toNat = v ∧ y.w = z := by
  refine snocInd (P := fun t => (widths t)[v]? = some z → z ≠ 0 → ∃ (i : Nat) (y : Nd), t[i]? = some y ∧ y.op = 33 ∧ y.imm.toNat = v ∧ y.w = z) (fun h hz => ?_) (fun t x ih h hz => ?_) t
  · exfalso
    have hv : v < 4 := (List.getElem?_eq_some_iff.1 h).1
    have : v = 0 ∨ v = 1 ∨ v = 2 ∨ v = 3 := by omega
    rcases this with rfl | rfl | rfl | rfl <;> exact hz (Option.some.inj h).symm
  · have go : (widths t)[v]? = some z → ∃ (i : Nat) (y : Nd), (t ++ [x])[i]? = some y ∧ y.op = 33 ∧ y.imm.toNat = v ∧ y.w = z := fun h' => by
      obtain ⟨i, y, h1, h2⟩ := ih h' hz
      exact ⟨i, y, by rw [List.getElem?_append_left (List.getElem?_eq_some_iff.1 h1).1]; exact h1, h2⟩
    rw [widths_snoc] at h
    split at h
    · rename_i hx
      by_cases he : x.imm.toNat = v
      · have hl := widths_len t
        have hv : v < 4 := by have := (List.getElem?_eq_some_iff.1 h).1; rw [List.length_set] at this; omega
        rw [he, List.getElem?_set_self (by omega)] at h
        exact ⟨t.length, x, by simp, hx, he, Option.some.inj h⟩
      · rw [List.getElem?_set_ne he] at h; exact go h
    · exact go h
theorem clash_other {t : List Nd} {x : Nd} (h : clashes t = false) (hx : x.op ≠ 33) : clashes (t ++ [x]) = false := by
  rw [clashes_iff] at h ⊢
  intro i j a b hij ha hb
  by_cases hj : j < t.length
  · rw [List.getElem?_append_left hj] at hb
    rw [List.getElem?_append_left (by omega)] at ha
    exact h i j a b hij ha hb
  · have : j = t.length := by have := (List.getElem?_eq_some_iff.1 hb).1; simp at this; omega
    subst this
    simp at hb
    subst hb
    unfold clash
    simp [hx]
theorem clash_good {t : List Nd} {x : Nd} (h : clashes t = false) (ht : okVars t) (hx : x.op = 33) (h0 : 0 ≤ x.imm) {v : Int} (hv : (widths t)[x.imm.toNat]? = some v) (hg : v = 0 ∨ v = x.w) : clashes (t ++ [x]) = false := by
  have h' := h
  rw [clashes_iff] at h ⊢
  intro i j a b hij ha hb
  by_cases hj : j < t.length
  · rw [List.getElem?_append_left hj] at hb
    rw [List.getElem?_append_left (by omega)] at ha
    exact h i j a b hij ha hb
  · have : j = t.length := by have := (List.getElem?_eq_some_iff.1 hb).1; simp at this; omega
    subst this
    simp at hb
    subst hb
    rw [List.getElem?_append_left hij] at ha
    unfold clash
    by_cases ho : a.op = 33
    · by_cases he : a.imm = x.imm
      · have hm := ht a (List.mem_of_getElem? ha)
        have := widths_at h' (fun y hy => (ht y hy).1) ha ho (hm.2 ho).1
        rw [he, hv] at this
        have hw := Option.some.inj this
        have := (hm.2 ho).2
        have : a.w = x.w := by omega
        simp [this]
      · simp [he]
    · simp [ho]
theorem clash_bad {t : List Nd} {x : Nd} (ht : okVars t) (hx : x.op = 33) (h0 : 0 ≤ x.imm) {v : Int} (hv : (widths t)[x.imm.toNat]? = some v) (h1 : v ≠ 0) (h2 : v ≠ x.w) : clashes (t ++ [x]) = true := by
  cases e : clashes (t ++ [x])
  · exfalso
    obtain ⟨i, y, hy, ho, hi, hw⟩ := widths_mem hv h1
    have hlt := (List.getElem?_eq_some_iff.1 hy).1
    have := clashes_iff.1 e i t.length y x hlt (by rw [List.getElem?_append_left hlt]; exact hy) (by simp)
    have hy0 := (ht y (List.mem_of_getElem? hy)).1
    have he : y.imm = x.imm := by omega
    unfold clash at this
    simp [ho, hx, he, hw] at this
    exact h2 this
  · rfl
theorem clashes_take {t : List Nd} {j : Nat} (h : clashes (t.take j) = true) : clashes t = true := by
  cases e : clashes t
  · exfalso
    have : clashes (t.take j) = false := clashes_iff.2 fun i k a b hik ha hb => by
      rw [List.getElem?_take] at ha hb
      split at ha
      · split at hb
        · exact clashes_iff.1 e i k a b hik ha hb
        · cases hb
      · cases ha
    rw [h] at this
    cases this
  · rfl
/-- the nodes of a term of right shapes -/
theorem okVars_of {z : Bool} {t : List Nd} (h : ∀ i x, t[i]? = some x → shaped z i x = true) (h0 : ∀ y ∈ t, 0 ≤ y.imm) : okVars t := fun y hy => by
  refine ⟨h0 y hy, fun ho => ?_⟩
  obtain ⟨i, hi⟩ := List.mem_iff_getElem?.1 hy
  obtain ⟨_, _, h3, _, h5, _⟩ := shaped_args (h i y hi)
  unfold immOk at h5
  rw [if_neg (by omega), if_pos ho] at h5
  exact ⟨by simpa using h5, h3⟩
end Go.Proofs.YtbiopedpceddeaaGreatDoor.T
end
section
namespace Go.Proofs.YtbiopedpceddeaaGreatDoor
open Go.RowKit
set_option linter.unusedVariables false
set_option linter.unusedSimpArgs false

theorem wd_four (t : List T.Nd) {v : Nat} (hv : v < 4) : ∃ z, (T.widths t)[v]? = some z := ⟨_, List.getElem?_eq_getElem (by rw [T.widths_len]; exact hv)⟩

end Go.Proofs.YtbiopedpceddeaaGreatDoor
end
section
namespace Go.Proofs.YtbiopedpceddeaaGreatDoor
open Go.RowKit
set_option linter.unusedVariables false
set_option linter.unusedSimpArgs false

theorem nd_imm {W : World} {At : Option Addr} {n : Nat} {t : List T.Nd} (h : StAt 5 NdR W At n t) : ∀ y ∈ t, 0 ≤ y.imm := fun y hy => by
  obtain ⟨i, hi⟩ := List.mem_iff_getElem?.1 hy
  have hl : i < n := by have := (List.getElem?_eq_some_iff.1 hi).1; rw [h.len] at this; exact this
  obtain ⟨x, _, _, _, _, hx, _, _, _, _, _, _, _, _, h0, _⟩ := nd_cells h hl
  rw [hi] at hx
  cases hx
  exact h0

end Go.Proofs.YtbiopedpceddeaaGreatDoor
end
section
namespace Go.Proofs.YtbiopedpceddeaaGreatDoor
open Go.RowKit
set_option linter.unusedVariables false
set_option linter.unusedSimpArgs false

theorem valid_ok {z : Bool} {t : List T.Nd} (h : T.valid z t = 0) : 1 ≤ t.length ∧ t.length ≤ 300 ∧ (∀ i x, t[i]? = some x → T.shaped z i x = true) ∧ (∀ x ∈ t, T.typed t x = true) ∧ T.clashes t = false := by
  unfold T.valid at h
  split at h
  · cases h
  · rename_i h1
    split at h
    · cases h
    · rename_i h2
      split at h
      · cases h
      · rename_i h3
        split at h
        · cases h
        · rename_i h4
          exact ⟨by omega, by omega, T.shaped_all.1 (by simpa using h2), List.all_eq_true.1 (by simpa using h3), by simpa using h4⟩

set_option maxHeartbeats 1000000 in
theorem rarity_any (op : Int) (W : World) : Calls Tryz.prog 224 #[.int .i64 op] W fun e w' => e = .returned (.int .i64 (T.ar op)) ∧ W = w' := by
  rcases ar_cases op with ⟨rfl, h⟩ | ⟨rfl, h⟩ | ⟨h1, h2, h⟩ | ⟨rfl, h⟩ | ⟨h1, h2, h⟩ | ⟨a, b, c, d, e, h⟩
  · go_enter Tryz.func224, Tryz.ntmps224
    go_wp2
    go_ret
    exact ⟨rfl, rfl⟩
  · go_enter Tryz.func224, Tryz.ntmps224
    go_wp2
    go_ret
    exact ⟨rfl, rfl⟩
  · rw [h]; clear h
    have q0 : (op == 0) = false := by simp; omega
    have q1 : (op == 33) = false := by simp; omega
    have q2 : decide (1 ≤ op) = true := by simp; omega
    have q3 : decide (op ≤ 14) = true := by simp; omega
    go_enter Tryz.func224, Tryz.ntmps224
    go_wp2
    go_ret
    exact ⟨rfl, rfl⟩
  · go_enter Tryz.func224, Tryz.ntmps224
    go_wp2
    go_ret
    exact ⟨rfl, rfl⟩
  · rw [h]; clear h
    have hop : op = 16 ∨ op = 17 ∨ op = 18 := by omega
    clear h1 h2
    rcases hop with rfl | rfl | rfl
    all_goals
      go_enter Tryz.func224, Tryz.ntmps224
      go_wp2
      go_ret
      exact ⟨rfl, rfl⟩
  · rw [h]; clear h
    have q0 : (op == 0) = false := by simp; omega
    have q1 : (op == 33) = false := by simp; omega
    have q4 : (op == 15) = false := by simp; omega
    by_cases hn : op < 1
    · have q2 : decide (1 ≤ op) = false := by simp; omega
      have q5 : decide (16 ≤ op) = false := by simp; omega
      clear a b c d e hn
      go_enter Tryz.func224, Tryz.ntmps224
      go_wp2
      go_ret
      exact ⟨rfl, rfl⟩
    · have q2 : decide (1 ≤ op) = true := by simp; omega
      have q3 : decide (op ≤ 14) = false := by simp; omega
      have q5 : decide (16 ≤ op) = true := by simp; omega
      have q6 : decide (op ≤ 18) = false := by simp; omega
      clear a b c d e hn
      go_enter Tryz.func224, Tryz.ntmps224
      go_wp2
      go_ret
      exact ⟨rfl, rfl⟩

theorem r7isWidth_any (n : Int) (W : World) : Calls Tryz.prog 225 #[.int .i64 n] W fun e w' => e = .returned (.bool (B.isWd n)) ∧ W = w' := by
  by_cases h1 : 1 ≤ n
  · by_cases h2 : n ≤ 32
    · rw [show B.isWd n = true from B.isWd_iff.2 ⟨h1, h2⟩]
      go_enter Tryz.func225, Tryz.ntmps225
      go_wp2
      go_ret
      exact ⟨rfl, rfl⟩
    · rw [show B.isWd n = false from by cases h : B.isWd n; rfl; exact absurd (B.isWd_iff.1 h).2 h2]
      have q : decide (n ≤ 32) = false := by simpa using h2
      clear h2
      go_enter Tryz.func225, Tryz.ntmps225
      go_wp2
      go_ret
      exact ⟨rfl, rfl⟩
  · rw [show B.isWd n = false from by cases h : B.isWd n; rfl; exact absurd (B.isWd_iff.1 h).1 h1]
    have q : decide (1 ≤ n) = false := by simpa using h1
    clear h1
    go_enter Tryz.func225, Tryz.ntmps225
    go_wp2
    go_ret
    exact ⟨rfl, rfl⟩
end Go.Proofs.YtbiopedpceddeaaGreatDoor
end
