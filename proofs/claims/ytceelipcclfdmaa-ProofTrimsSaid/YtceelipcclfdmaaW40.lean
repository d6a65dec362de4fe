/- Walks of the library at this program: Concat. -/
import Derived.Test.YtceelipcclfdmaaW39
namespace Go.Proofs.Ytceelipcclfdmaa
open Go.RowKit Go.Maps Go.Sort
set_option linter.unusedVariables false

/-- the slice value u holds the values us, wherever -/
def SrcR (w : World) (u : Value) (us : List Value) : Prop := ∃ A c, u = .slice A us.length c ∧ ∀ j x, us[j]? = some x → ∃ b off, A = some ⟨b, off, none⟩ ∧ w.cell? ⟨b, off + j, none⟩ = some x
theorem monoSrc : MonoR SrcR := by
  rintro w w' u us hb ⟨A, c, rfl, h⟩
  refine ⟨A, c, rfl, fun j x hx => ?_⟩
  obtain ⟨b, off, e, hc⟩ := h j x hx
  exact ⟨b, off, e, (hb.cell (p := ⟨b, off + j, none⟩) (World.block_lt_of_cell? _ _ hc)).trans hc⟩

theorem flatten_take_succ {uss : List (List Value)} {k : Nat} {us : List Value} (h : uss[k]? = some us) : (uss.take (k + 1)).flatten = (uss.take k).flatten ++ us := by rw [take_succ_of h]; simp
theorem flatten_take_le (uss : List (List Value)) (k : Nat) : (uss.take k).flatten.length ≤ uss.flatten.length := by
  conv => rhs; rw [← List.take_append_drop k uss]
  rw [List.flatten_append, List.length_append]; omega

set_option maxHeartbeats 2000000 in
theorem concat_any (B : Option Addr) (q cB : Nat) (uss : List (List Value)) (w : World) (hB : SlAt SrcR w B q uss) (h1 : ∀ us ∈ uss, ∀ u ∈ us, u.oneCell' = true) (ht : uss.flatten.length ≤ 1000000) :
    Calls Try.prog 50 #[.slice B q cB] w (SomeOwn w 23 uss.flatten.length uss.flatten) := by
  have hbl := hB.le
  have HB := Lib.hid hB; clear hB
  have H1 := Lib.hid h1; clear h1
  obtain ⟨T, hT⟩ : ∃ T, T = uss.flatten.length := ⟨_, rfl⟩
  rw [← hT] at ht
  have HT := Lib.hid hT; clear hT
  have Hgrow := Lib.hid (grow_nil T w ht)
  rw [← HT.out]
  go_enter Try.func50, Try.ntmps50
  go_wp2
  go_loop [3, 11] (fun s i => ∃ k : Nat, k ≤ q ∧ i = .int .i64 k ∧ ∃ S : Nat, s = .int .i64 S ∧ S ≤ T ∧ Hid (S = (uss.take k).flatten.length)) (fun _ i => q - (intOf i).toNat)
  case atStart => exact ⟨0, Nat.zero_le _, rfl, 0, rfl, Nat.zero_le _, by show _ = _; simp⟩
  case round =>
    obtain ⟨k, hk, rfl, S, rfl, hST, HS⟩ := hrel
    by_cases hlt : k < q
    · obtain ⟨us, b, off, u, hx, rfl, _, hc1, A1, c1, rfl, _⟩ := HB.out.at_ hlt
      have hS2 : S + us.length ≤ T := by
        have h2 := flatten_take_le uss (k + 1)
        rw [flatten_take_succ hx, List.length_append, ← HS.out, ← HT.out] at h2
        exact h2
      have Hx := Lib.hid hx; clear hx
      go_wp2
      go_round
      case rel => exact ⟨k + 1, by omega, by go_num, S + us.length, by go_num, hS2, by show _ = _; rw [flatten_take_succ Hx.out, List.length_append, ← HS.out]⟩
      case measure => simp [intOf]; omega
    · have hS2 : S = T := by
        have h2 := HS.out
        rw [take_all HB.out.len (by omega)] at h2
        rw [h2, HT.out]
      subst hS2
      clear HS
      go_wp2_with fail
      refine Hgrow.out.mono ?_
      rintro e w1 ⟨v1, rfl, hown1, hb1, hv1⟩
      have Hown1 := Lib.hid hown1; clear hown1
      have Hv1 := Lib.hid hv1; clear hv1
      go_wp2
      go_loopg [6, 27] (q + 1) (fun g v i wr => ∃ k L : Nat, k ≤ q ∧ i = .int .i64 (k : Int) ∧ g + k = q + 1 ∧ OwnAt wr 23 1 v L ((uss.take k).flatten) ∧ Below w.heap.size w wr ∧ (∀ g, v.ownBlock = some g → w.heap.size ≤ g))
      case atStart => exact ⟨0, 0, Nat.zero_le _, rfl, rfl, by simpa using Hown1.out, hb1, Hv1.out⟩
      case round =>
        clear hb1 Hown1 Hv1
        obtain ⟨k2, L, hk2, rfl, hgk, hown, hbw, hob⟩ := hrel
        have Hgk := Lib.hid hgk; clear hgk
        have Hown := Lib.hid hown; clear hown
        have Hob := Lib.hid hob; clear hob
        have hL : L ≤ S := by
          have h2 := flatten_take_le uss k2
          have h3 := Hown.out.1
          rw [Nat.mul_one] at h3
          rw [h3, ← HT.out] at h2
          exact h2
        by_cases hlt2 : k2 < q
        · obtain ⟨us, b, off, u, hx, rfl, _, hc1, A1, c1, rfl, hsrc⟩ := (HB.out.below monoSrc hbw).at_ hlt2
          have h1u := H1.out us (List.mem_of_getElem? hx)
          have hS2 : L + us.length ≤ S := by
            have h2 := flatten_take_le uss (k2 + 1)
            have h3 := Hown.out.1
            rw [Nat.mul_one] at h3
            rw [flatten_take_succ hx, List.length_append, h3, ← HT.out] at h2
            exact h2
          have Hx := Lib.hid hx; clear hx
          have H1u := Lib.hid h1u; clear h1u
          have Hsrc := Lib.hid hsrc; clear hsrc
          go_wp2_with (at_builtin; refine wpList_append_src _ rfl (.tmp 31) (.tmp 32) 22 rfl 23 (.slice none 0 0) 1 24 Try.underlying22 Try.infoSl rfl (by omega) _ L _ rfl Hown.out A1 us.length c1 us rfl (by rw [Nat.mul_one]) (fun j x hj => by
              obtain ⟨b', off', e, hc⟩ := Hsrc.out j x hj
              exact ⟨_, e, by rw [addr_add_zero]; exact hc⟩) H1u.out (by omega) (by omega) ?_; intro v' w3 hown' hgr hat)
          have hbb : Below w.heap.size w w3 ∧ ∀ g, v'.ownBlock = some g → w.heap.size ≤ g := by
            refine ⟨hbw.grown hgr hbw.size Hob.out, fun g hg => ?_⟩
            rcases hat with h | h
            · exact Hob.out g (h.symm.trans hg)
            · rw [h] at hg; cases hg; exact hbw.size
          have Hown' := Lib.hid hown'; clear hown' hgr hat
          have Hbb := Lib.hid hbb; clear hbb
          go_wp2
          go_roundg (gk - 1)
          case measure => have := Hgk.out; omega
          case rel => have := Hgk.out; exact ⟨k2 + 1, L + us.length, by omega, by go_num, by omega, by rw [flatten_take_succ Hx.out]; exact Hown'.out, Hbb.out.1, Hbb.out.2⟩
        · have hown := Hown.out
          rw [take_all HB.out.len (by omega)] at hown
          have hLS : L = S := by
            have := hown.1
            rw [Nat.mul_one] at this
            rw [← this, ← HT.out]
          subst hLS
          have Hown2 := Lib.hid hown; clear hown
          go_wp2
          go_ret
          exact ⟨_, rfl, Hown2.out, hbw, Hob.out⟩
end Go.Proofs.Ytceelipcclfdmaa
