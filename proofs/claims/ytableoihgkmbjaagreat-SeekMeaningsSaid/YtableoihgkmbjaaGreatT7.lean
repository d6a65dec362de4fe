/- Walks of both layers of terms: Widths; the reference's nodes. -/
import Derived.Test.YtableoihgkmbjaaGreatT6
namespace Go.Proofs.YtableoihgkmbjaaGreat
open Go.RowKit
set_option linter.unusedVariables false
set_option linter.unusedSimpArgs false

/-- what Widths gives back -/
def WsR (t : List T.Nd) (W : World) (e : Ending) (w' : World) : Prop := Below W.heap.size W w' ∧
  ((T.valid true t ≠ 0 ∧ e = .returned (.tuple #[.slice none 0 0, .int .i64 (T.valid true t)])) ∨
   (T.valid true t = 0 ∧ ∃ g, e = .returned (.tuple #[.slice (some ⟨g, 0, none⟩) 4 4, .int .i64 0]) ∧ W.heap.size ≤ g ∧ w'.heap[g]? = some (.cells ((T.widths t).map (Value.int .i64)).toArray 3 (0, 0))))

theorem valid_ok {z : Bool} {t : List T.Nd} (h : T.valid z t = 0) : 1 ≤ t.length ∧ t.length ≤ 300 ∧ (∀ i x, t[i]? = some x → T.shaped z i x = true) ∧ (∀ x ∈ t, T.typed t x = true) ∧ T.clashes t = false := by
  unfold T.valid at h
  split at h
  · cases h
  · rename_i h1
    split at h
    · cases h
    · rename_i h2
      split at h
      · cases h
      · rename_i h3
        split at h
        · cases h
        · rename_i h4
          exact ⟨by omega, by omega, T.shaped_all.1 (by simpa using h2), List.all_eq_true.1 (by simpa using h3), by simpa using h4⟩

set_option maxRecDepth 100000 in
set_option maxHeartbeats 1000000 in
theorem pWidths_any (t : List T.Nd) (n ct : Nat) (At : Option Addr) (W : World) (hT : StAt 5 NdR W At n t) : Calls Tryz.prog 46 #[.slice At n ct] W (WsR t W) := by
  have HV := Lib.hid (pValidate_any t n ct At W hT)
  have HT := Lib.hid hT
  have hlen := hT.len
  clear hT
  by_cases hv : T.valid true t = 0
  · obtain ⟨v1, v2, v3, v4, v5⟩ := valid_ok hv
    rw [hv] at HV
    have HW := Lib.hid (fun W' (h : Below W.heap.size W W') => pwidths_any t n ct At W' (HT.out.below monoNd h) (T.okVars_of v3 (nd_imm HT.out)) (by omega))
    have Hv := Lib.hid hv
    have Hc := Lib.hid v5
    clear hv v1 v2 v3 v4 v5 hlen
    go_enter Tryz.func46, Tryz.ntmps46
    go_wp2_with fail
    refine HV.out.mono ?_
    rintro e w1 ⟨rfl, hb1⟩
    have Hb1 := Lib.hid hb1
    clear hb1
    go_wp2_with fail
    refine (HW.out _ Hb1.out).mono ?_
    rintro e w2 ⟨hb2, (⟨hc, rfl⟩ | ⟨_, g, rfl, hg, hrow⟩)⟩
    · rw [Hc.out] at hc; cases hc
    · have Hb2 := Lib.hid (Hb1.out.trans (hb2.mono Hb1.out.size))
      have Hg := Lib.hid (Nat.le_trans Hb1.out.size hg)
      have Hrow := Lib.hid hrow
      clear hb2 hg hrow
      go_wp2
      go_ret2
      exact ⟨Hb2.out, .inr ⟨Hv.out, g, rfl, Hg.out, Hrow.out⟩⟩
  · have Hv := Lib.hid hv
    obtain ⟨er, her⟩ : ∃ er, er = T.valid true t := ⟨_, rfl⟩
    rw [← her] at HV hv
    have hvb : (er != 0) = true := by simpa using hv
    have Her := Lib.hid her
    clear her hlen
    go_enter Tryz.func46, Tryz.ntmps46
    go_wp2_with fail
    refine HV.out.mono ?_
    rintro e w1 ⟨rfl, hb1⟩
    have Hb1 := Lib.hid hb1
    clear hb1
    go_wp2
    go_ret2
    exact ⟨Hb1.out, .inl ⟨Hv.out, by rw [← Her.out]; rfl⟩⟩

set_option maxHeartbeats 1000000 in
theorem rarity_any (op : Int) (W : World) : Calls Tryz.prog 128 #[.int .i64 op] W fun e w' => e = .returned (.int .i64 (T.ar op)) ∧ W = w' := by
  rcases ar_cases op with ⟨rfl, h⟩ | ⟨rfl, h⟩ | ⟨h1, h2, h⟩ | ⟨rfl, h⟩ | ⟨h1, h2, h⟩ | ⟨a, b, c, d, e, h⟩
  · go_enter Tryz.func128, Tryz.ntmps128
    go_wp2
    go_ret
    exact ⟨rfl, rfl⟩
  · go_enter Tryz.func128, Tryz.ntmps128
    go_wp2
    go_ret
    exact ⟨rfl, rfl⟩
  · rw [h]; clear h
    have q0 : (op == 0) = false := by simp; omega
    have q1 : (op == 33) = false := by simp; omega
    have q2 : decide (1 ≤ op) = true := by simp; omega
    have q3 : decide (op ≤ 14) = true := by simp; omega
    go_enter Tryz.func128, Tryz.ntmps128
    go_wp2
    go_ret
    exact ⟨rfl, rfl⟩
  · go_enter Tryz.func128, Tryz.ntmps128
    go_wp2
    go_ret
    exact ⟨rfl, rfl⟩
  · rw [h]; clear h
    have hop : op = 16 ∨ op = 17 ∨ op = 18 := by omega
    clear h1 h2
    rcases hop with rfl | rfl | rfl
    all_goals
      go_enter Tryz.func128, Tryz.ntmps128
      go_wp2
      go_ret
      exact ⟨rfl, rfl⟩
  · rw [h]; clear h
    have q0 : (op == 0) = false := by simp; omega
    have q1 : (op == 33) = false := by simp; omega
    have q4 : (op == 15) = false := by simp; omega
    by_cases hn : op < 1
    · have q2 : decide (1 ≤ op) = false := by simp; omega
      have q5 : decide (16 ≤ op) = false := by simp; omega
      clear a b c d e hn
      go_enter Tryz.func128, Tryz.ntmps128
      go_wp2
      go_ret
      exact ⟨rfl, rfl⟩
    · have q2 : decide (1 ≤ op) = true := by simp; omega
      have q3 : decide (op ≤ 14) = false := by simp; omega
      have q5 : decide (16 ≤ op) = true := by simp; omega
      have q6 : decide (op ≤ 18) = false := by simp; omega
      clear a b c d e hn
      go_enter Tryz.func128, Tryz.ntmps128
      go_wp2
      go_ret
      exact ⟨rfl, rfl⟩

theorem r7isWidth_any (n : Int) (W : World) : Calls Tryz.prog 129 #[.int .i64 n] W fun e w' => e = .returned (.bool (B.isWd n)) ∧ W = w' := by
  by_cases h1 : 1 ≤ n
  · by_cases h2 : n ≤ 32
    · rw [show B.isWd n = true from B.isWd_iff.2 ⟨h1, h2⟩]
      go_enter Tryz.func129, Tryz.ntmps129
      go_wp2
      go_ret
      exact ⟨rfl, rfl⟩
    · rw [show B.isWd n = false from by cases h : B.isWd n; rfl; exact absurd (B.isWd_iff.1 h).2 h2]
      have q : decide (n ≤ 32) = false := by simpa using h2
      clear h2
      go_enter Tryz.func129, Tryz.ntmps129
      go_wp2
      go_ret
      exact ⟨rfl, rfl⟩
  · rw [show B.isWd n = false from by cases h : B.isWd n; rfl; exact absurd (B.isWd_iff.1 h).1 h1]
    have q : decide (1 ≤ n) = false := by simpa using h1
    clear h1
    go_enter Tryz.func129, Tryz.ntmps129
    go_wp2
    go_ret
    exact ⟨rfl, rfl⟩
end Go.Proofs.YtableoihgkmbjaaGreat
