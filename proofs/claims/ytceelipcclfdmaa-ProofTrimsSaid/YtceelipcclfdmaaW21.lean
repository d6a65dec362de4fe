/- Walks of the program: a look at a clause. -/
import Derived.Test.YtceelipcclfdmaaW20
namespace Go.Proofs.Ytceelipcclfdmaa
open Go.RowKit Go.Maps

namespace S
def PScan (tr : Int → Bool) (p : List Int) (op : Int) : Prop :=
  (op = 0 ∧ ∀ m ∈ p, tr m = false ∧ tr (-m) = true) ∨ (op ≠ 0 ∧ op ∈ p ∧ Opn tr op ∧ ∀ m ∈ p, m ≠ op → tr m = false ∧ tr (-m) = true)
theorem PScan.neg {tr : Int → Bool} {p : List Int} {op x : Int} (h : PScan tr p op) (h1 : tr x = false) (h2 : tr (-x) = true) : PScan tr (p ++ [x]) op := by
  rcases h with ⟨h0, ha⟩ | ⟨h0, hm, ho, ha⟩
  · refine .inl ⟨h0, fun m hm => ?_⟩
    rcases List.mem_append.1 hm with hm | hm
    · exact ha m hm
    · rw [List.mem_singleton.1 hm]; exact ⟨h1, h2⟩
  · refine .inr ⟨h0, by simp [hm], ho, fun m hm hne => ?_⟩
    rcases List.mem_append.1 hm with hm | hm
    · exact ha m hm hne
    · rw [List.mem_singleton.1 hm]; exact ⟨h1, h2⟩
theorem PScan.first {tr : Int → Bool} {p : List Int} {x : Int} (h : PScan tr p 0) (hx : x ≠ 0) (h1 : tr x = false) (h2 : tr (-x) = false) : PScan tr (p ++ [x]) x := by
  rcases h with ⟨_, ha⟩ | ⟨h0, _⟩
  · refine .inr ⟨hx, by simp, ⟨h1, h2⟩, fun m hm hne => ?_⟩
    rcases List.mem_append.1 hm with hm | hm
    · exact ha m hm
    · exact absurd (List.mem_singleton.1 hm) hne
  · exact absurd rfl h0
theorem PScan.again {tr : Int → Bool} {p : List Int} {x : Int} (h : PScan tr p x) (hx : x ≠ 0) : PScan tr (p ++ [x]) x := by
  rcases h with ⟨h0, _⟩ | ⟨h0, hm, ho, ha⟩
  · exact absurd h0 hx
  · refine .inr ⟨h0, by simp [hm], ho, fun m hm hne => ?_⟩
    rcases List.mem_append.1 hm with hm | hm
    · exact ha m hm hne
    · exact absurd (List.mem_singleton.1 hm) hne
def PLook (l : List (Int × Bool)) (q : List Int) (c : List Int) (b : Bool) (l' : List (Int × Bool)) (q' : List Int) : Prop :=
  (b = true ∧ l' = l ∧ q' = q ∧ Fine (trl l) c) ∨ (b = false ∧ l' = l ∧ q' = q ∧ ∀ m ∈ c, trl l m = false ∧ trl l (-m) = true) ∨
  (b = true ∧ ∃ y ∈ c, Opn (trl l) y ∧ (∀ m ∈ c, m ≠ y → trl l m = false ∧ trl l (-m) = true) ∧ l' = AL.put l y true ∧ q' = q ++ [y])
end S

theorem pscan_cons {tr : Int → Bool} {xs : List Int} {k : Nat} {x op : Int} (h : xs[k]? = some x) (hs : S.PScan tr (xs.take k ++ [x]) op) : S.PScan tr (xs.take (k + 1)) op := by
  rw [take_succ_of h]; exact hs

def SomePLook (w : World) (B0 T M : Nat) (l : List (Int × Bool)) (q : List Int) (c : List Int) (e : Ending) (w' : World) : Prop :=
  ∃ b l' qv' q', e = .returned (.bool b) ∧ TrAt w' B0 T M l' qv' q' ∧ Below B0 w w' ∧ S.PLook l q c b l' q'

set_option maxHeartbeats 2000000 in
theorem plook_any (B0 T M : Nat) (l : List (Int × Bool)) (qv : Value) (q : List Int) (n : Nat) (A : Option Addr) (m c : Nat) (xs : List Int) (w : World) (h : TrAt w B0 T M l qv q) (hA : SlAt (IntR .i64) w A m xs) (hc : S.isClause n xs = true) (hn : n ≤ 4000) (hq : q.length ≤ 100000) :
    Calls Try.prog 55 #[.pointer (some ⟨T, 0, none⟩), .slice A m c] w (SomePLook w B0 T M l q xs) := by
  have hl := hA.le
  have HA := Lib.hid hA; clear hA
  have H := Lib.hid h; clear h
  have HC := Lib.hid hc; clear hc
  have hc0 := H.out.c0
  go_enter Try.func55, Try.ntmps55
  go_wp2
  go_loop [5, 10] (fun a i => ∃ k : Nat, k ≤ m ∧ i = .int .i64 k ∧ ∃ op, a = .int .i64 op ∧ -4000 ≤ op ∧ op ≤ 4000 ∧ Hid (S.PScan (trl l) (xs.take k) op)) (fun _ i => m - (intOf i).toNat)
  case atStart => exact ⟨0, Nat.zero_le _, rfl, 0, rfl, by omega, by omega, .inl ⟨rfl, fun m hm => by simp at hm⟩⟩
  case round =>
    obtain ⟨k, hk, rfl, op, rfl, ho1, ho2, HT⟩ := hrel
    by_cases hlt : k < m
    · obtain ⟨x, b, off, u, hx, rfl, _, h1, rfl⟩ := HA.out.at_ hlt
      obtain ⟨hx1, hx2, hx3⟩ := isLit_wf ⟨by omega, by omega⟩ (lit_at HC.out hx)
      have Hx := Lib.hid hx; clear hx
      have hlk := H.out.lk (x := x) (by omega)
      have hlk2 := H.out.lk (x := -x) (by omega)
      have Hx3 := Lib.hid hx3; clear hx3
      cases ht : trl l x
      · cases ht2 : trl l (-x)
        · rw [ht] at hlk
          rw [ht2] at hlk2
          have Ht := Lib.hid ht; clear ht
          have Ht2 := Lib.hid ht2; clear ht2
          by_cases h0 : op = 0
          · subst h0
            go_wp2
            go_round
            case rel => exact ⟨k + 1, by omega, by go_num, x, rfl, by omega, by omega, pscan_cons Hx.out (S.PScan.first HT.out Hx3.out Ht.out Ht2.out)⟩
            case measure => simp [intOf]; omega
          · have hb0 : (op != 0) = true := by simpa using h0
            by_cases he : x = op
            · subst he
              have H0 := Lib.hid h0; clear h0
              go_wp2
              go_round
              case rel => exact ⟨k + 1, by omega, by go_num, x, rfl, by omega, by omega, pscan_cons Hx.out (S.PScan.again HT.out H0.out)⟩
              case measure => simp [intOf]; omega
            · have hb : (x != op) = true := by simpa using he
              have H0 := Lib.hid h0; clear h0
              have He := Lib.hid he; clear he
              go_wp2
              go_ret
              refine ⟨true, l, qv, q, rfl, H.out, Below.refl _ _, .inl ⟨rfl, rfl, rfl, .inr ?_⟩⟩
              rcases HT.out with ⟨h2, _⟩ | ⟨_, h2, h3, _⟩
              · exact absurd h2 H0.out
              · exact ⟨op, List.mem_of_mem_take h2, x, List.mem_of_getElem? Hx.out, fun e => He.out e.symm, h3, ⟨Ht.out, Ht2.out⟩⟩
        · rw [ht] at hlk
          rw [ht2] at hlk2
          have Ht := Lib.hid ht; clear ht
          have Ht2 := Lib.hid ht2; clear ht2
          by_cases h0 : op = 0
          · subst h0
            go_wp2
            go_round
            case rel => exact ⟨k + 1, by omega, by go_num, 0, rfl, by omega, by omega, pscan_cons Hx.out (S.PScan.neg HT.out Ht.out Ht2.out)⟩
            case measure => simp [intOf]; omega
          · have hb0 : (op != 0) = true := by simpa using h0
            have he : x ≠ op := by
              rintro rfl
              rcases HT.out with ⟨h2, _⟩ | ⟨_, _, h3, _⟩
              · exact h0 h2
              · have := h3.2; rw [Ht2.out] at this; cases this
            have hb : (x != op) = true := by simpa using he
            clear h0 he
            go_wp2
            go_round
            case rel => exact ⟨k + 1, by omega, by go_num, op, rfl, by omega, by omega, pscan_cons Hx.out (S.PScan.neg HT.out Ht.out Ht2.out)⟩
            case measure => simp [intOf]; omega
      · rw [ht] at hlk
        have Ht := Lib.hid ht; clear ht hlk2
        go_wp2
        go_ret
        exact ⟨true, l, qv, q, rfl, H.out, Below.refl _ _, .inl ⟨rfl, rfl, rfl, .inl ⟨x, List.mem_of_getElem? Hx.out, Ht.out⟩⟩⟩
    · have hT := HT.out
      rw [take_all HA.out.len (by omega)] at hT
      have HT2 := Lib.hid hT; clear hT HT
      by_cases h0 : op = 0
      · subst h0
        go_wp2
        go_ret
        refine ⟨false, l, qv, q, rfl, H.out, Below.refl _ _, .inr (.inl ⟨rfl, rfl, rfl, ?_⟩)⟩
        rcases HT2.out with ⟨_, h2⟩ | ⟨h2, _⟩
        · exact h2
        · exact absurd rfl h2
      · have hb0 : (op != 0) = true := by simpa using h0
        have hS := HT2.out.resolve_left (fun h => h0 h.1)
        have con := ptake_any B0 T M l qv q op w H.out ⟨ho1, ho2⟩ hq
        have Hcon := Lib.hid con; clear con
        have HS := Lib.hid hS; clear hS
        have H0 := Lib.hid h0; clear h0
        go_wp2_with fail
        refine Hcon.out.mono ?_
        rintro e w' ⟨l', qv', q', rfl, htr, hbw, hpost⟩
        have HP := Lib.hid hpost; clear hpost
        have Htr := Lib.hid htr; clear htr
        go_wp2
        go_ret
        rcases HP.out with ⟨h2, _⟩ | ⟨_, hl', hq'⟩
        · rw [HS.out.2.2.1.1] at h2; cases h2
        · subst hl'
          subst hq'
          refine ⟨true, _, qv', _, ret_bool ?_, Htr.out, hbw, .inr (.inr ⟨rfl, op, HS.out.2.1, HS.out.2.2.1, HS.out.2.2.2, rfl, rfl⟩)⟩
          rw [trl_put]
          have h4 := HS.out.2.2.1.2
          have h5 := H0.out
          simp only [S.also]
          rw [if_neg (by omega), h4]; rfl
end Go.Proofs.Ytceelipcclfdmaa
