/- Walks of the reference's layer of rows: limits, tables, inputs, steps. -/
import Derived.Test.YtableoihgkmbjaaR6
import Derived.Test.YtableoihgkmbjaaPlainK
import Derived.Test.YtableoihgkmbjaaSt
namespace Go.Proofs.Ytableoihgkmbjaa
open Go.RowKit
set_option linter.unusedVariables false

/-- the elements us read, in w, as xs -/
def Elems {α : Type} (R : World → Value → α → Prop) (w : World) (us : List Value) (xs : List α) : Prop := us.length = xs.length ∧ ∀ (k : Nat) (x : α) (u : Value), xs[k]? = some x → us[k]? = some u → R w u x
theorem Elems.nil_ {α : Type} {R : World → Value → α → Prop} {w : World} : Elems R w [] [] := ⟨rfl, fun k x u hx => by simp at hx⟩
theorem Elems.snoc {α : Type} {R : World → Value → α → Prop} {w : World} {us : List Value} {xs : List α} {u : Value} {x : α} (h : Elems R w us xs) (hr : R w u x) : Elems R w (us ++ [u]) (xs ++ [x]) := by
  refine ⟨by simp [h.1], fun k y v hy hv => ?_⟩
  by_cases hk : k < xs.length
  · rw [List.getElem?_append_left hk] at hy
    rw [List.getElem?_append_left (by rw [h.1]; exact hk)] at hv
    exact h.2 k y v hy hv
  · rw [List.getElem?_append_right (by omega)] at hy
    rw [List.getElem?_append_right (by rw [h.1]; omega)] at hv
    rw [h.1] at hv
    have : k - xs.length = 0 := by
      have := (List.getElem?_eq_some_iff.1 hy).1
      simp at this; omega
    rw [this] at hy hv
    simp at hy hv
    rw [← hy, ← hv]; exact hr
theorem Elems.map_ {α : Type} {R R' : World → Value → α → Prop} {w w' : World} {us : List Value} {xs : List α} (h : Elems R w us xs) (hR : ∀ u x, R w u x → R' w' u x) : Elems R' w' us xs :=
  ⟨h.1, fun k x u hx hu => hR _ _ (h.2 k x u hx hu)⟩
theorem OwnAt.slElems {α : Type} {R : World → Value → α → Prop} {w0 w : World} {e : TypeId} {A : Option Addr} {n c : Nat} {us : List Value} {xs : List α} (h : OwnAt w e 1 (.slice A n c) n us) (hM : MonoR R) (hb : Below w0.heap.size w0 w) (he : Elems R w0 us xs) : SlAt R w A n xs :=
  h.slAt he.1.symm fun k x u hx hu => hM _ _ _ _ hb (he.2 k x u hx hu)
theorem below_append_src {w0 w w' : World} {B : Nat} {v v' : Value} (hb : Below B w0 w) (hB : B ≤ w.heap.size) (hv : ∀ g, v.ownBlock = some g → B ≤ g) (hg : w.grownBy w' v.ownBlock)
    (hat : v'.ownBlock = v.ownBlock ∨ v'.ownBlock = some w.heap.size) : Below B w0 w' ∧ ∀ g, v'.ownBlock = some g → B ≤ g := by
  refine ⟨hb.grown hg hB hv, fun g hgv => ?_⟩
  rcases hat with h | h
  · exact hv g (by rw [← h]; exact hgv)
  · rw [h] at hgv; cases hgv; exact hB
theorem below_append {w0 w w' : World} {B : Nat} {v v' : Value} {o : Obj} (hb : Below B w0 w) (hB : B ≤ w.heap.size) (hv : ∀ g, v.ownBlock = some g → B ≤ g) (hg : (w.alloc o).grownBy w' v.ownBlock)
    (hat : v'.ownBlock = v.ownBlock ∨ v'.ownBlock = some (w.heap.size + 1)) : Below B w0 w' ∧ ∀ g, v'.ownBlock = some g → B ≤ g := by
  refine ⟨(hb.alloc hB o).grown hg (by simp; omega) hv, fun g hgv => ?_⟩
  rcases hat with h | h
  · exact hv g (by rw [← h]; exact hgv)
  · rw [h] at hgv; cases hgv; omega
theorem ownAt_ne {w : World} {e e' : TypeId} {s s' : Nat} {v v' : Value} {n n' : Nat} {xs xs' : List Value} (h : OwnAt w e s v n xs) (h' : OwnAt w e' s' v' n' xs') (hne : e ≠ e') : v.ownBlock = none ∨ v.ownBlock ≠ v'.ownBlock := by
  rcases h.2 with ⟨rfl, _⟩ | ⟨g, off, cap, cur, rfl, hg, _⟩
  · exact .inl rfl
  · rcases h'.2 with ⟨rfl, _⟩ | ⟨g', off', cap', cur', rfl, hg', _⟩
    · exact .inr (by simp [Value.ownBlock])
    · refine .inr fun he => ?_
      have : g = g' := by simpa [Value.ownBlock] using he
      subst this
      rw [hg] at hg'
      injection hg' with hg'
      injection hg' with _ h2 _
      exact hne h2

/-- 'append(out, u)' of one element of one cell; the place of the new block as the walk spells it. -/
theorem wpList_append_one' {P : Program} {w : World} {ops : Array Oper} {rest : List Oper} {o : Oper} {a : Act} {Q : Exit → Act → World → Prop} (hgd : o.guard = none) (sx x : Operand) (t : TypeId)
    (ho : o.op = .call { callee := .builtin .append, args := #[sx, x], argTypes := #[t, t] })
    (e : TypeId) (z : Value) (bytes : Nat) (ht : P.underlying t = some (.slice e)) (hinfo : (P.info? e).map (fun i => (i.zero, i.size, i.bytes)) = some (some z, 1, bytes)) (hzs : z.cells.size = 1)
    (v : Value) (n : Nat) (xs : List Value) (hs : a.eval sx = v) (hown : OwnAt w e 1 v n xs) (u : Value) (h1 : u.oneCell' = true) (E : TypeId) (p : Nat) (hp : p = w.heap.size)
    (hx : a.eval x = .slice (some ⟨p, 0, none⟩) 1 1) (hn : n ≤ 1000000000) (hb : bytes ≤ 64)
    (h : ∀ v' w', OwnAt w' e 1 v' (n + 1) (xs ++ [u]) → (w.alloc (.cells #[u] E)).grownBy w' v.ownBlock → (v'.ownBlock = v.ownBlock ∨ v'.ownBlock = some (w.heap.size + 1)) → wpList P ops Q rest (a.put o.dst v') w') :
    wpList P ops Q (o :: rest) a (w.alloc (.cells #[u] E)) := by
  subst hp
  exact wpList_append_one w hgd sx x t ho e z bytes ht hinfo hzs v n xs hs hown u h1 E hx hn hb h

theorem infoU32 : (Try.prog.info? 40).map (fun i => (i.zero, i.size, i.bytes)) = some (some (.int .u32 0), 1, 4) := by kernel_rfl
theorem infoInt : (Try.prog.info? 3).map (fun i => (i.zero, i.size, i.bytes)) = some (some (.int .i64 0), 1, 8) := by kernel_rfl
theorem infoSlU : (Try.prog.info? 24).map (fun i => (i.zero, i.size, i.bytes)) = some (some (.slice none 0 0), 1, 24) := by kernel_rfl
theorem infoStep : (Try.prog.info? 42).map (fun i => (i.zero, i.size, i.bytes)) = some (some (.agg #[.int .i64 0, .int .i64 0, .int .i64 0]), 3, 24) := by kernel_rfl
theorem infoSlStep : (Try.prog.info? 26).map (fun i => (i.zero, i.size, i.bytes)) = some (some (.slice none 0 0), 1, 24) := by kernel_rfl

theorem over_any (k w : Int) (W : World) : Calls Try.prog 17 #[.int .i64 k, .int .i64 w] W fun e w' => e = .returned (.int .i64 (if K.over k w then 0 else 1)) ∧ W = w' := by
  by_cases h1 : k < 1
  · have : K.over k w = false := by unfold K.over; simp; omega
    rw [this]; clear this
    go_enter Try.func17, Try.ntmps17
    go_wp2
    go_ret
    exact ⟨rfl, rfl⟩
  have d1 : decide (k < 1) = false := by simpa using h1
  by_cases h2 : 2 < k
  · have : K.over k w = false := by unfold K.over; simp; omega
    rw [this]; clear this
    go_enter Try.func17, Try.ntmps17
    go_wp2
    go_ret
    exact ⟨rfl, rfl⟩
  have d2 : decide (2 < k) = false := by simpa using h2
  by_cases h3 : w < 1
  · have : K.over k w = false := by unfold K.over; simp; omega
    rw [this]; clear this
    go_enter Try.func17, Try.ntmps17
    go_wp2
    go_ret
    exact ⟨rfl, rfl⟩
  have d3 : decide (w < 1) = false := by simpa using h3
  by_cases h4 : 3 < w
  · have : K.over k w = false := by unfold K.over; simp; omega
    rw [this]; clear this
    go_enter Try.func17, Try.ntmps17
    go_wp2
    go_ret
    exact ⟨rfl, rfl⟩
  have d4 : decide (3 < w) = false := by simpa using h4
  have : K.over k w = true := by unfold K.over; simp; omega
  rw [this]; clear this
  go_enter Try.func17, Try.ntmps17
  go_wp2
  go_ret
  exact ⟨rfl, rfl⟩

/-- the numbers of inputs and the widths that are right -/
theorem kw_cases {k w : Nat} (hk : k = 1 ∨ k = 2) (hw : w = 1 ∨ w = 2 ∨ w = 3) : (k = 1 ∧ w = 1) ∨ (k = 1 ∧ w = 2) ∨ (k = 1 ∧ w = 3) ∨ (k = 2 ∧ w = 1) ∨ (k = 2 ∧ w = 2) ∨ (k = 2 ∧ w = 3) := by omega

/-- what '1 << (k * w)' comes to -/
theorem size_facts {k w : Nat} (hk : k = 1 ∨ k = 2) (hw : w = 1 ∨ w = 2 ∨ w = 3) : 0 ≤ (k : Int) * (w : Int) ∧ (k : Int) * (w : Int) ≤ 6 ∧ wrap64 (2 ^ (k * w)) = ((K.size k w : Nat) : Int) ∧ K.size k w ≤ 64 := by
  rcases kw_cases hk hw with ⟨rfl, rfl⟩ | ⟨rfl, rfl⟩ | ⟨rfl, rfl⟩ | ⟨rfl, rfl⟩ | ⟨rfl, rfl⟩ | ⟨rfl, rfl⟩
  all_goals exact ⟨by decide, by decide, by rw [B.wrap64_id (by decide) (by decide)]; rfl, by decide⟩

theorem isW_word {w : Nat} (hw : w = 1 ∨ w = 2 ∨ w = 3) (x : Int) : B.isW w x = decide (x < B.pw w) := by
  unfold B.isW; rw [B.isWd_iff.2 (by omega)]; rfl

set_option maxHeartbeats 2000000 in
theorem risTable_any (k w : Nat) (hk : k = 1 ∨ k = 2) (hw : w = 1 ∨ w = 2 ∨ w = 3) (A : Option Addr) (m c : Nat) (xs : List Int) (W : World) (hA : SlAt (IntR .u32) W A m xs) (hx32 : K.W32 xs) :
    Calls Try.prog 18 #[.int .i64 k, .int .i64 w, .slice A m c] W fun e w' => e = .returned (.bool (K.isTable k w xs)) ∧ W = w' := by
  have hl := hA.le
  have HA := Lib.hid hA; clear hA
  have HX := Lib.hid hx32; clear hx32
  obtain ⟨s0, s1, s2, s3⟩ := size_facts hk hw
  have HW := Lib.hid hw
  by_cases hm : m = K.size k w
  · have hi : K.isTable k w xs = xs.all fun x => decide (x < B.pw w) := by unfold K.isTable; rw [HA.out.len, hm]; simp
    rw [hi]
    have hd : ((m : Int) != ((K.size k w : Nat) : Int)) = false := by rw [hm]; simp
    clear hi hm hk hw
    go_enter Try.func18, Try.ntmps18
    go_wp2
    clear s2 hd
    go_loop [7] (fun i => ∃ j : Nat, j ≤ m ∧ i = .int .i64 j ∧ Hid ((xs.take j).all (fun x => decide (x < B.pw w)) = true)) (fun i => m - (intOf i).toNat)
    case atStart => exact ⟨0, Nat.zero_le _, rfl, rfl⟩
    case round =>
      obtain ⟨j, hj, rfl, HT⟩ := hrel
      by_cases hlt : j < m
      · obtain ⟨x, b, off, u, hx, rfl, _, h1, rfl⟩ := HA.out.at_ hlt
        have hxw := HX.out x (List.mem_of_getElem? hx)
        have con := isWord_any w x W hxw.1 hxw.2
        rw [isW_word HW.out] at con
        have Hx := Lib.hid hx; clear hx hxw
        cases hc : decide (x < B.pw w)
        · rw [hc] at con
          have Hcon := Lib.hid con
          have Hc := Lib.hid hc; clear con hc
          go_wp2_with fail
          refine Hcon.out.mono ?_
          rintro e w' ⟨rfl, rfl⟩
          go_wp2
          go_ret
          exact ⟨ret_bool (all_false_at Hx.out Hc.out).symm, rfl⟩
        · rw [hc] at con
          have Hcon := Lib.hid con
          have Hc := Lib.hid hc; clear con hc
          go_wp2_with fail
          refine Hcon.out.mono ?_
          rintro e w' ⟨rfl, rfl⟩
          go_wp2
          go_round
          case rel => exact ⟨j + 1, by omega, by go_num, all_take_step Hx.out HT.out Hc.out⟩
          case measure => simp [intOf]; omega
      · go_wp2
        go_ret
        have h3 := HT.out
        rw [take_all HA.out.len (by omega)] at h3
        exact ⟨ret_bool h3.symm, rfl⟩
  · have hi : K.isTable k w xs = false := by unfold K.isTable; rw [HA.out.len]; simp [hm]
    rw [hi]
    have hd : ((m : Int) != ((K.size k w : Nat) : Int)) = true := by simp; omega
    clear hi hm hk hw
    go_enter Try.func18, Try.ntmps18
    go_wp2
    go_ret
    exact ⟨rfl, rfl⟩

theorem rops_any (W : World) : Calls Try.prog 47 #[] W fun e w' => ∃ c, e = .returned (.slice (some ⟨W.heap.size, 0, none⟩) 7 c) ∧ SlAt (IntR .i64) w' (some ⟨W.heap.size, 0, none⟩) 7 K.ops ∧ Below W.heap.size W w' := by
  go_enter Try.func47, Try.ntmps47
  go_wp2
  go_ret
  refine ⟨7, rfl, ?_, (Below.refl _ _).alloc (Nat.le_refl _) _⟩
  exact (OwnAt.of_new (s := 1) W #[.int .i64 1, .int .i64 2, .int .i64 8, .int .i64 9, .int .i64 10, .int .i64 11, .int .i64 12] 7 rfl (by simp [maxLen])).slInts
end Go.Proofs.Ytableoihgkmbjaa
