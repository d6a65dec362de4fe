/- Merged: QBW5, QPV3. -/
import Derived.Test.YtbiopedpceddeaaGreatDoorN39
import Derived.Test.YtbiopedpceddeaaGreatDoorN41
import Derived.Test.YtbiopedpceddeaaGreatDoorN42
import Derived.Test.YtbiopedpceddeaaGreatDoorN16
set_option linter.unusedVariables false
set_option linter.unusedSimpArgs false
section
namespace Go.Proofs.YtbiopedpceddeaaGreatDoor
open Go.RowKit Go.Maps
set_option linter.unusedVariables false
set_option linter.unusedSimpArgs false

set_option maxRecDepth 100000 in
set_option maxHeartbeats 2000000 in
theorem pworse_any (op n fl imm a b : Int) (vs : Value) (W : World) (hop : (Lit.int .i64 op).wf = true) (hf0 : 0 ≤ fl) (hf1 : fl ≤ 7) (ha : 0 ≤ a) (hb : 0 ≤ b) (hok : B.okOp op n a b = true) (hvs : ∃ A m c, vs = .slice A m c) :
    Calls Tryz.prog 51 #[.agg #[.int .i64 op, .int .i64 n, .int .i64 fl, vs, .int .u32 imm], .int .u32 a, .int .u32 b] W fun e w' => e = .returned (.int .i64 (B.worse op fl n a b)) ∧ Below W.heap.size W w' := by
  obtain ⟨A, m, c, rfl⟩ := hvs
  obtain ⟨W1, hW1⟩ : ∃ W1, W1 = W.alloc (.cells #[.int .i64 op, .int .i64 n, .int .i64 fl, .slice A m c, .int .u32 imm] 62) := ⟨_, rfl⟩
  have hb1 : Below W.heap.size W W1 := by rw [hW1]; exact (Below.refl _ _).alloc (Nat.le_refl _) _
  have hrow : W1.heap[W.heap.size]? = some (.cells #[.int .i64 op, .int .i64 n, .int .i64 fl, .slice A m c, .int .u32 imm] 62 (0, 0)) := by rw [hW1]; exact heap_alloc_new W _
  have Hrow := Lib.hid (fun X (h : Below W1.heap.size W1 X) => show X.cell? ⟨W.heap.size, 0, none⟩ = some (.int .i64 op) ∧ X.cell? ⟨W.heap.size, 1, none⟩ = some (.int .i64 n) ∧ X.cell? ⟨W.heap.size, 2, none⟩ = some (.int .i64 fl) from by
    have hr := (h.block _ (Array.getElem?_eq_some_iff.1 hrow).1).trans hrow
    refine ⟨?_, ?_, ?_⟩
    all_goals rw [cell_of_row _ _ _ _ _ (0, 0) hr]; rfl)
  have Hb1 := Lib.hid hb1
  obtain ⟨dv, hdv⟩ : ∃ dv, dv = (B.do_ op n a b).getD 0 := ⟨_, rfl⟩
  obtain ⟨hs, hhs⟩ : ∃ hs, hs = B.has op n a b := ⟨_, rfl⟩
  obtain ⟨bk, hbk⟩ : ∃ bk, bk = B.brk op fl n a b := ⟨_, rfl⟩
  have HD := Lib.hid (show ∀ X, Calls Tryz.prog 107 #[.int .i64 op, .int .i64 n, .int .u32 a, .int .u32 b] X fun e w' => e = .returned (.tuple #[.int .u32 dv, .bool hs, .int .i64 0]) ∧ Below X.heap.size X w' from fun X => by
    rw [hdv, hhs]; exact pDo_ok op n a b X hop ha hb hok)
  have HB := Lib.hid (show ∀ X, Calls Tryz.prog 108 #[.int .i64 op, .int .i64 fl, .int .i64 n, .int .u32 a, .int .u32 b] X fun e w' => e = .returned (.tuple #[.bool bk, .int .i64 0]) ∧ Below X.heap.size X w' from fun X => by
    rw [hbk]; exact pBreaks_ok op fl n a b X hop hf0 hf1 ha hb hok)
  obtain ⟨r, hr⟩ : ∃ r, B.worse op fl n a b = r := ⟨_, rfl⟩
  rw [hr]
  have Hr := Lib.hid (show r = if hs = false ∧ 4 ≤ op ∧ op ≤ 7 then 2 else if hs = false ∨ bk = true then 1 else 0 from by
    rw [← hr, hhs, hbk]; rfl)
  clear hrow hb1 hdv hhs hbk hr hok hf0 hf1 hop ha hb
  obtain ⟨c0, c1, c2⟩ := Hrow.out W1 (Below.refl _ _)
  go_enter Tryz.func51, Tryz.ntmps51
  go_upto_region 1 with (fail)
  rw [← hW1]
  clear hW1
  go_wp2_with fail
  (with_reducible refine (HD.out _).mono ?_)
  rintro e w2 ⟨rfl, hb2⟩
  have Hb2 := Lib.hid hb2
  clear hb2 c0 c1 c2
  obtain ⟨c0, c1, c2⟩ := Hrow.out w2 Hb2.out
  go_wp2_with fail
  (with_reducible refine (HB.out _).mono ?_)
  rintro e w3 ⟨rfl, hb3⟩
  have Hb3 := Lib.hid (Hb2.out.trans (hb3.mono Hb2.out.size))
  clear hb3 c0 c1 c2
  obtain ⟨c0, c1, c2⟩ := Hrow.out w3 Hb3.out
  have Hbe := Lib.hid (Hb1.out.trans (Hb3.out.mono Hb1.out.size))
  cases hs with
  | true =>
    cases bk with
    | true =>
      have Hf := Lib.hid (show r = 1 from by rw [Hr.out]; simp)
      go_wp2
      go_ret
      exact ⟨by rw [Hf.out]; rfl, Hbe.out⟩
    | false =>
      have Hf := Lib.hid (show r = 0 from by rw [Hr.out]; simp)
      go_wp2
      go_ret
      exact ⟨by rw [Hf.out]; rfl, Hbe.out⟩
  | false =>
    by_cases h4 : 4 ≤ op
    · have q4 : decide (4 ≤ op) = true := by simpa using h4
      by_cases h7 : op ≤ 7
      · have q7 : decide (op ≤ 7) = true := by simpa using h7
        have Hf := Lib.hid (show r = 2 from by rw [Hr.out, if_pos ⟨rfl, h4, h7⟩])
        go_wp2
        go_ret
        exact ⟨by rw [Hf.out]; rfl, Hbe.out⟩
      · have q7 : decide (op ≤ 7) = false := by simpa using h7
        have Hf := Lib.hid (show r = 1 from by rw [Hr.out, if_neg (by omega), if_pos (.inl rfl)])
        go_wp2
        go_ret
        exact ⟨by rw [Hf.out]; rfl, Hbe.out⟩
    · have q4 : decide (4 ≤ op) = false := by simpa using h4
      have Hf := Lib.hid (show r = 1 from by rw [Hr.out, if_neg (by omega), if_pos (.inl rfl)])
      go_wp2
      go_ret
      exact ⟨by rw [Hf.out]; rfl, Hbe.out⟩
end Go.Proofs.YtbiopedpceddeaaGreatDoor
end
section
namespace Go.Proofs.YtbiopedpceddeaaGreatDoor
set_option linter.unusedVariables false
set_option linter.unusedSimpArgs false
namespace V
open T
def fit1 (env : List Int) (x : Nd) : Bool := !decide (x.op = 33) || B.isW x.w (env.getD x.imm.toNat 0)
/-- each variable has a word of its width -/
def fits (t : List Nd) (env : List Int) : Bool := t.all (fit1 env)
def value (t : List Nd) (env : List Int) : Int × Int × Int :=
  if R.fvalid t ≠ 0 then (0, 0, R.fvalid t) else if env.length ≠ 4 ∨ fits t env = false then (0, 0, 1)
  else if 0 < bad t env then (0, bad t env, 0) else ((vals t env).getD (t.length - 1) 0, 0, 0)
theorem fvalid_val {t : List Nd} (h : R.fvalid t = 0) : valid false t = 0 ∧ ∀ x ∈ t, R.flOk x.op x.fl = true := by
  unfold R.fvalid at h
  split at h
  · cases h
  · split at h
    · cases h
    · rename_i h2
      refine ⟨h, fun x hx => ?_⟩
      rw [Bool.not_eq_false, List.all_eq_true] at h2
      exact h2 x hx
theorem std_fits {t : List Nd} {env : List Int} (h : R.fvalid t = 0) (hi : ∀ y ∈ t, 0 ≤ y.imm) (hl : env.length = 4) (hw : ∀ x ∈ env, 0 ≤ x ∧ x < 4294967296) (hf : fits t env = true) : Std t env := by
  obtain ⟨v1, v2, v3, v4, v5⟩ := valid_ok (fvalid_val h).1
  refine ⟨v3, fun i x hx => v4 x (List.mem_of_getElem? hx), hi, hl, fun i x hx h33 => ?_⟩
  unfold fits at hf
  rw [List.all_eq_true] at hf
  have h1 := hf x (List.mem_of_getElem? hx)
  unfold fit1 at h1
  rw [decide_eq_true h33, Bool.not_true, Bool.false_or, B.isW_iff] at h1
  have hs := shaped_args (v3 i x hx)
  have him : x.imm < 4 := by have := hs.2.2.2.2.1; unfold immOk at this; rw [if_neg (by omega), if_pos h33] at this; simpa using this
  have h0 := hi x (List.mem_of_getElem? hx)
  refine ⟨?_, h1.2.2⟩
  have hl2 : x.imm.toNat < env.length := by omega
  rw [getD_lt hl2]
  exact (hw _ (List.getElem_mem hl2)).1
theorem at_all {t : List Nd} {env : List Int} (h : Std t env) {k : Nat} {x : Nd} (hx : t[k]? = some x) : ∀ i, i < x.args.length → at_ (valsTo t env k) x i = at_ (vals t env) x i := fun q hq => by
  have hk := (List.getElem?_eq_some_iff.1 hx).1
  have hn := h.nod (valsTo_words h k (by omega)) (by rw [valsTo_len]; exact hx)
  have hlo := hn.lo q hq
  rw [valsTo_len] at hlo
  exact vals_at _ _ (by omega) (by omega)
theorem badTo_step {t : List Nd} {need : List Bool} {vs : List Int} {j : Nat} {x : Nd} (hx : t[j]? = some x) : badTo t need vs (j + 1) = max (badTo t need vs j) (if need.getD j false = true then wrs vs x else 0) := by
  rw [badTo, List.getD_eq_getElem?_getD, List.getD_eq_getElem?_getD, hx]
  rfl
theorem need_len (p : List Nd) : (R.need p).length = p.length := by
  unfold R.need
  have h : ∀ (ks : List Nat) (o : List Bool), (ks.foldl (R.need1 p) o).length = o.length := by
    intro ks
    induction ks with
    | nil => intro o; rfl
    | cons k ks ih =>
      intro o
      rw [List.foldl_cons, ih]
      unfold R.need1
      have h2 : ∀ (la : List Int) (o : List Bool), (la.foldl (fun o a => o.set a.toNat (o.getD a.toNat false || o.getD k false)) o).length = o.length := by
        intro la
        induction la with
        | nil => intro o; rfl
        | cons a la ih2 => intro o; rw [List.foldl_cons, ih2, List.length_set]
      exact h2 _ _
  rw [h]
  simp
end V
end Go.Proofs.YtbiopedpceddeaaGreatDoor
end
