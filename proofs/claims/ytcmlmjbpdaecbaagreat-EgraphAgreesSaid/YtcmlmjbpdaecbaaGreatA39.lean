/- Merged: PlainB, Maps, B1, B2, B3, B4, B5, B6, B7, PlainB2. -/
import Derived.Test.YtcmlmjbpdaecbaaGreatA01
import Derived.Maps.Keyed
import Derived.Maps.OwnOps
import Derived.Carry
import Derived.ChangeMaps5
import Derived.Laws.BitsAllLaws
import Derived.Laws.EntriesVeiled
import Derived.Shelf.Abstract
import Derived.Deep.RegionWith
import Derived.StillTailTactics
import Derived.BigRegion
set_option linter.unusedVariables false
set_option linter.unusedSimpArgs false
section
namespace Go.Proofs.YtcmlmjbpdaecbaaGreat.B
set_option linter.unusedVariables false
set_option linter.unusedSimpArgs false

section
end
end Go.Proofs.YtcmlmjbpdaecbaaGreat.B
end
section
namespace Go.Proofs.YtcmlmjbpdaecbaaGreat
open Go.RowKit Go.MapKept Go.Maps

namespace AL
end AL

section

end

end Go.Proofs.YtcmlmjbpdaecbaaGreat
end
section
namespace Go.Proofs.YtcmlmjbpdaecbaaGreat
open Go.RowKit

namespace B
end B

theorem signed_any (n x : Int) (w : World) (h0 : 1 ≤ n) (h1 : n ≤ 32) (h2 : 0 ≤ x) (h3 : x < B.pw n) : Calls Tryz.prog 190 #[.int .i64 n, .int .u32 x] w fun e w' => e = .returned (.int .i64 (B.sg n x)) ∧ w = w' := by
  have hp := B.pw_succ h0
  have hq := B.pw_pos (n - 1)
  have hl := B.pw_le h1
  have e1 := B.pw_sub h0
  have e2 : (2 : Int) ^ n.toNat = B.pw n := rfl
  by_cases hc : B.pw (n - 1) ≤ x
  · have ht : (x / 2 ^ (n.toNat - 1) == 1) = true := by
      rw [e1]
      have : x / B.pw (n - 1) = 1 := by
        have h4 : x = B.pw (n - 1) * 1 + (x - B.pw (n - 1)) := by omega
        rw [h4, Int.mul_comm, Int.mul_add_ediv_right _ _ (by omega), Int.ediv_eq_zero_of_lt (by omega) (by omega)]; rfl
      rw [this]; rfl
    have h4 : x < 4294967296 := by omega
    have Hc := Lib.hid (⟨hp, hq, hl, e2, hc, h3⟩ : _ ∧ _ ∧ _ ∧ _ ∧ _ ∧ _); clear hp hq hl e1 e2 hc h3
    go_enter Tryz.func190, Tryz.ntmps190
    go_wp2
    go_ret
    refine ⟨ret_int ?_, rfl⟩
    obtain ⟨hp, hq, hl, e2, hc, h3⟩ := Hc.out
    rw [e2, B.wrap64_id (x := B.pw n) (by omega) (by omega), B.wrap64_id (by omega) (by omega), B.sg, if_pos hc]
  · have ht : (x / 2 ^ (n.toNat - 1) == 1) = false := by
      rw [e1, Int.ediv_eq_zero_of_lt h2 (by omega)]; rfl
    have h4 : x < 4294967296 := by omega
    have Hc := Lib.hid (Int.not_le.2 (Int.not_le.1 hc)); clear hp hq hl e1 e2 hc h3
    go_enter Tryz.func190, Tryz.ntmps190
    go_wp2
    go_ret
    exact ⟨ret_int (by rw [B.sg, if_neg (by have := Hc.out; omega)]), rfl⟩

theorem sign_any (n x : Int) (w : World) (h0 : 1 ≤ n) (h1 : n ≤ 32) (h2 : 0 ≤ x) (h3 : x < B.pw n) : Calls Tryz.prog 224 #[.int .i64 n, .int .u32 x] w fun e w' => e = .returned (.int .u32 (if B.sg n x < 0 then B.pw n - 1 else 0)) ∧ w = w' := by
  have H1 := Lib.hid (signed_any n x w h0 h1 h2 h3)
  have H2 := Lib.hid (mask_any n w (by omega) h1)
  clear h3
  by_cases hc : B.sg n x < 0
  · go_enter Tryz.func224, Tryz.ntmps224
    go_wp2_with fail
    refine H1.out.mono ?_
    rintro e w' ⟨rfl, rfl⟩
    go_wp2_with fail
    refine H2.out.mono ?_
    rintro e w' ⟨rfl, rfl⟩
    go_wp2
    go_ret
    exact ⟨rfl, rfl⟩
  · go_enter Tryz.func224, Tryz.ntmps224
    go_wp2_with fail
    refine H1.out.mono ?_
    rintro e w' ⟨rfl, rfl⟩
    go_wp2
    go_ret
    exact ⟨rfl, rfl⟩
end Go.Proofs.YtcmlmjbpdaecbaaGreat
end
section
namespace Go.Proofs.YtcmlmjbpdaecbaaGreat
open Go.RowKit
set_option linter.unusedVariables false

namespace B
end B

theorem quotient_none (n a b : Int) (w : World) (h : B.Wds n a b) (hq : b = 0 ∨ (B.sg n a = -B.pw (n - 1) ∧ B.sg n b = -1)) :
    Calls Tryz.prog 212 #[.int .i64 n, .int .u32 a, .int .u32 b] w fun e w' => e = .returned (.tuple #[.int .i64 0, .int .i64 0, .bool false]) ∧ w = w' := by
  obtain ⟨n0, n1, a0, a1, b0, b1⟩ := h
  have H1 := Lib.hid (signed_any n a w n0 n1 a0 a1)
  have H2 := Lib.hid (signed_any n b w n0 n1 b0 b1)
  have hz := B.sg_zero n0 b0 b1
  have h3 := B.pw_le31 (show n - 1 ≤ 31 by omega)
  have h4 := B.pw_pos (n - 1)
  have e2 : (2 : Int) ^ (n.toNat - 1) = B.pw (n - 1) := B.pw_sub n0
  by_cases hb : b = 0
  · have hs : (B.sg n b == 0) = true := by rw [hz.2 hb]; rfl
    clear hq hz h3 h4 e2 hb a1 b1
    go_enter Tryz.func212, Tryz.ntmps212
    go_wp2_with fail
    refine H1.out.mono ?_
    rintro e w' ⟨rfl, rfl⟩
    go_wp2_with fail
    refine H2.out.mono ?_
    rintro e w' ⟨rfl, rfl⟩
    go_wp2
    go_ret3
    exact ⟨rfl, rfl⟩
  · obtain ⟨q1, q2⟩ := hq.resolve_left hb
    clear hq hz hb a1 b1
    have hs : (B.sg n b == 0) = false := by rw [q2]; rfl
    have hs2 : (B.sg n b == -1) = true := by rw [q2]; rfl
    have hs3 : (B.sg n a == wrap64 (-wrap64 (2 ^ (n.toNat - 1)))) = true := by
      rw [e2, B.wrap64_id (x := B.pw (n - 1)) (by omega) (by omega), B.wrap64_id (by omega) (by omega), q1]; simp
    clear q1 q2 h3 h4 e2
    go_enter Tryz.func212, Tryz.ntmps212
    go_wp2_with fail
    refine H1.out.mono ?_
    rintro e w' ⟨rfl, rfl⟩
    go_wp2_with fail
    refine H2.out.mono ?_
    rintro e w' ⟨rfl, rfl⟩
    go_wp2
    go_ret3
    exact ⟨rfl, rfl⟩

theorem quotient_some (n a b : Int) (w : World) (h : B.Wds n a b) (hq : ¬ (b = 0 ∨ (B.sg n a = -B.pw (n - 1) ∧ B.sg n b = -1))) :
    Calls Tryz.prog 212 #[.int .i64 n, .int .u32 a, .int .u32 b] w fun e w' => e = .returned (.tuple #[.int .i64 ((B.sg n a).tdiv (B.sg n b)), .int .i64 ((B.sg n a).tmod (B.sg n b)), .bool true]) ∧ Dr w w' := by
  obtain ⟨n0, n1, a0, a1, b0, b1⟩ := h
  have H1 := Lib.hid (signed_any n a w n0 n1 a0 a1)
  have H2 := Lib.hid (signed_any n b w n0 n1 b0 b1)
  have hz := B.sg_zero n0 b0 b1
  have h3 := B.pw_le31 (show n - 1 ≤ 31 by omega)
  have h4 := B.pw_pos (n - 1)
  have hlo := B.sg_lo n0 a0
  have hhi := B.sg_hi n0 a1
  have e2 : (2 : Int) ^ (n.toNat - 1) = B.pw (n - 1) := B.pw_sub n0
  have hb : b ≠ 0 := fun h => hq (.inl h)
  have hne : B.sg n b ≠ 0 := fun h => hb (hz.1 h)
  have hs : (B.sg n b == 0) = false := by simpa using hne
  have bd := B.tdiv_bound (B.sg n a) (B.sg n b)
  have bm := B.tmod_bound (B.sg n a) (B.sg n b)
  have ed : wrap64 ((B.sg n a).tdiv (B.sg n b)) = (B.sg n a).tdiv (B.sg n b) := B.wrap64_id (by omega) (by omega)
  have em : wrap64 ((B.sg n a).tmod (B.sg n b)) = (B.sg n a).tmod (B.sg n b) := B.wrap64_id (by omega) (by omega)
  by_cases hb1 : B.sg n b = -1
  · have hs2 : (B.sg n b == -1) = true := by rw [hb1]; rfl
    have hs3 : (B.sg n a == wrap64 (-wrap64 (2 ^ (n.toNat - 1)))) = false := by
      rw [e2, B.wrap64_id (x := B.pw (n - 1)) (by omega) (by omega), B.wrap64_id (by omega) (by omega)]
      have : B.sg n a ≠ -B.pw (n - 1) := fun h => hq (.inr ⟨h, hb1⟩)
      simpa using this
    clear hq hz hb a1 b1 hb1 e2 h3 h4 hlo hhi bd bm em
    have Hd := Lib.hid ed; clear ed
    go_enter Tryz.func212, Tryz.ntmps212
    go_wp2_with fail
    refine H1.out.mono ?_
    rintro e w' ⟨rfl, rfl⟩
    go_wp2_with fail
    refine H2.out.mono ?_
    rintro e w' ⟨rfl, rfl⟩
    go_wp2
    go_quiet (fail)
    go_wp2
    go_ret3
    exact ⟨ret_iib Hd.out rfl, ⟨_, rfl⟩⟩
  · have hs2 : (B.sg n b == -1) = false := by simpa using hb1
    clear hq hz hb a1 b1 hb1 e2 h3 h4 hlo hhi bd bm em
    have Hd := Lib.hid ed; clear ed
    go_enter Tryz.func212, Tryz.ntmps212
    go_wp2_with fail
    refine H1.out.mono ?_
    rintro e w' ⟨rfl, rfl⟩
    go_wp2_with fail
    refine H2.out.mono ?_
    rintro e w' ⟨rfl, rfl⟩
    go_wp2
    go_quiet (fail)
    go_wp2
    go_ret3
    exact ⟨ret_iib Hd.out rfl, ⟨_, rfl⟩⟩

theorem wraps_do (k : Int) (g B0 : Nat) (w : World) (eg : ∀ args w, (callFunc g args).run Tryz.prog w = .ok (.enter g args) w) (x : Int → Int → Int) (hc : w.cell? ⟨B0, 0, none⟩ = some (.func (.func g) #[] #[]))
    (hg : ∀ a b : Int, Calls Tryz.prog g #[.int .u32 a, .int .u32 b] w fun e w' => e = .returned (.int .u32 (x a b % 4294967296)) ∧ w = w') (hx : ∀ n a b, B.do_ k n a b = some (x a b % B.pw n)) : DoesAt k 226 #[.pointer (some ⟨B0, 0, none⟩)] w := by
  intro n a b h
  obtain ⟨n0, n1, a0, a1, b0, b1⟩ := h
  have H1 := Lib.hid (hg a b); clear hg
  have H2 := Lib.hid (mask_any n w (by omega) n1)
  have Hx := Lib.hid (hx n a b); clear hx
  show Calls Tryz.prog _ #[.int .i64 n, .int .u32 a, .int .u32 b, .pointer (some ⟨B0, 0, none⟩)] w _
  have He := B.mask_mod (x a b) n1
  have HE := Lib.hid He; clear He a1 b1
  generalize x a b % 4294967296 = y at H1 HE
  generalize B.pw n - 1 = z at H2 HE
  go_enter Tryz.func226, Tryz.ntmps226
  go_wp2_with fail
  refine H1.out.mono ?_
  rintro e w' ⟨rfl, rfl⟩
  go_wp2_with fail
  refine H2.out.mono ?_
  rintro e w' ⟨rfl, rfl⟩
  go_wp2
  go_ret2
  exact ⟨ret_wb (by rw [B.full, Hx.out, HE.out]; rfl) (by rw [B.has, Hx.out]; rfl), Dr.refl _⟩

theorem plain_do (k : Int) (g B0 : Nat) (w : World) (eg : ∀ args w, (callFunc g args).run Tryz.prog w = .ok (.enter g args) w) (x : Int → Int → Int) (hc : w.cell? ⟨B0, 0, none⟩ = some (.func (.func g) #[] #[]))
    (hg : ∀ a b : Int, 0 ≤ a → a < 4294967296 → 0 ≤ b → b < 4294967296 → Calls Tryz.prog g #[.int .u32 a, .int .u32 b] w fun e w' => e = .returned (.int .u32 (x a b)) ∧ w = w') (hx : ∀ n a b, B.do_ k n a b = some (x a b)) : DoesAt k 227 #[.pointer (some ⟨B0, 0, none⟩)] w := by
  intro n a b h
  obtain ⟨n0, n1, a0, a1, b0, b1⟩ := h
  have hl := B.pw_le n1
  have H1 := Lib.hid (hg a b a0 (by omega) b0 (by omega)); clear hg hl
  have Hx := Lib.hid (hx n a b); clear hx
  show Calls Tryz.prog _ #[.int .i64 n, .int .u32 a, .int .u32 b, .pointer (some ⟨B0, 0, none⟩)] w _
  clear a1 b1
  generalize x a b = y at H1 Hx
  go_enter Tryz.func227, Tryz.ntmps227
  go_wp2_with fail
  refine H1.out.mono ?_
  rintro e w' ⟨rfl, rfl⟩
  go_wp2
  go_ret2
  exact ⟨ret_wb (by rw [B.full, Hx.out]; rfl) (by rw [B.has, Hx.out]; rfl), Dr.refl _⟩

theorem small1_any (a b : Int) (w : World) : Calls Tryz.prog 202 #[.int .u32 a, .int .u32 b] w fun e w' => e = .returned (.int .u32 ((a + b) % 4294967296)) ∧ w = w' := by
  go_enter Tryz.func202, Tryz.ntmps202
  go_wp2
  go_ret
  exact ⟨rfl, rfl⟩
theorem small2_any (a b : Int) (w : World) : Calls Tryz.prog 204 #[.int .u32 a, .int .u32 b] w fun e w' => e = .returned (.int .u32 ((a - b) % 4294967296)) ∧ w = w' := by
  go_enter Tryz.func204, Tryz.ntmps204
  go_wp2
  go_ret
  exact ⟨rfl, rfl⟩
theorem small3_any (a b : Int) (w : World) : Calls Tryz.prog 207 #[.int .u32 a, .int .u32 b] w fun e w' => e = .returned (.int .u32 ((a * b) % 4294967296)) ∧ w = w' := by
  go_enter Tryz.func207, Tryz.ntmps207
  go_wp2
  go_ret
  exact ⟨rfl, rfl⟩
theorem small8_any (a b : Int) (w : World) (a0 : 0 ≤ a) (a1 : a < 4294967296) (b0 : 0 ≤ b) (b1 : b < 4294967296) : Calls Tryz.prog 216 #[.int .u32 a, .int .u32 b] w fun e w' => e = .returned (.int .u32 (((a.toNat &&& b.toNat : Nat) : Int))) ∧ w = w' := by
  go_enter Tryz.func216, Tryz.ntmps216
  go_wp2
  go_ret
  exact ⟨ret_int (u32_and a b a0 a1 b0 b1), rfl⟩
theorem small9_any (a b : Int) (w : World) (a0 : 0 ≤ a) (a1 : a < 4294967296) (b0 : 0 ≤ b) (b1 : b < 4294967296) : Calls Tryz.prog 217 #[.int .u32 a, .int .u32 b] w fun e w' => e = .returned (.int .u32 (((a.toNat ||| b.toNat : Nat) : Int))) ∧ w = w' := by
  go_enter Tryz.func217, Tryz.ntmps217
  go_wp2
  go_ret
  exact ⟨ret_int (u32_or a b a0 a1 b0 b1), rfl⟩
theorem small10_any (a b : Int) (w : World) (a0 : 0 ≤ a) (a1 : a < 4294967296) (b0 : 0 ≤ b) (b1 : b < 4294967296) : Calls Tryz.prog 218 #[.int .u32 a, .int .u32 b] w fun e w' => e = .returned (.int .u32 (((a.toNat ^^^ b.toNat : Nat) : Int))) ∧ w = w' := by
  go_enter Tryz.func218, Tryz.ntmps218
  go_wp2
  go_ret
  exact ⟨ret_int (u32_xor a b a0 a1 b0 b1), rfl⟩
end Go.Proofs.YtcmlmjbpdaecbaaGreat
end
section
namespace Go.Proofs.YtcmlmjbpdaecbaaGreat
open Go.RowKit
set_option linter.unusedVariables false

theorem does4 (w : World) : DoesAt 4 208 #[] w := by
  intro n a b h
  obtain ⟨n0, n1, a0, a1, b0, b1⟩ := h
  have hl := B.pw_le n1
  have a2 : a < 4294967296 := by omega
  have b2 : b < 4294967296 := by omega
  show Calls Tryz.prog _ #[.int .i64 n, .int .u32 a, .int .u32 b] w _
  have HM := Lib.hid (fun W => mask_any n W (by omega) n1)
  by_cases hb : b = 0
  · have hs : (b == 0) = true := by simpa using hb
    have Hx := Lib.hid (show B.do_ 4 n a b = none by rw [B.do_4, if_pos hb])
    clear hb a1 b1 hl
    go_enter Tryz.func208, Tryz.ntmps208
    go_wp2_with fail
    refine (HM.out _).mono ?_
    rintro e w' ⟨rfl, rfl⟩
    go_wp2
    go_ret2
    exact ⟨ret_wb (by rw [B.full, Hx.out]; rfl) (by rw [B.has, Hx.out]; rfl), Dr.refl _⟩
  · have hs : (b == 0) = false := by simpa using hb
    have hb1 : 1 ≤ b := by omega
    have Hx := Lib.hid (show B.do_ 4 n a b = some (a / b) by rw [B.do_4, if_neg hb])
    clear hb a1 b1 hl
    go_enter Tryz.func208, Tryz.ntmps208
    go_wp2
    go_ret2
    exact ⟨ret_wb (by rw [B.full, Hx.out]; rfl) (by rw [B.has, Hx.out]; rfl), Dr.refl _⟩

theorem does5 (w : World) : DoesAt 5 210 #[] w := by
  intro n a b h
  obtain ⟨n0, n1, a0, a1, b0, b1⟩ := h
  have hl := B.pw_le n1
  have a2 : a < 4294967296 := by omega
  have b2 : b < 4294967296 := by omega
  show Calls Tryz.prog _ #[.int .i64 n, .int .u32 a, .int .u32 b] w _
  by_cases hb : b = 0
  · have hs : (b == 0) = true := by simpa using hb
    have Hx := Lib.hid (show B.do_ 5 n a b = none by rw [B.do_5, if_pos hb])
    clear hb a1 b1 hl
    go_enter Tryz.func210, Tryz.ntmps210
    go_wp2
    go_ret2
    exact ⟨ret_wb (by rw [B.full, Hx.out]; rfl) (by rw [B.has, Hx.out]; rfl), Dr.refl _⟩
  · have hs : (b == 0) = false := by simpa using hb
    have hb1 : 1 ≤ b := by omega
    have Hx := Lib.hid (show B.do_ 5 n a b = some (a % b) by rw [B.do_5, if_neg hb])
    clear hb a1 b1 hl
    go_enter Tryz.func210, Tryz.ntmps210
    go_wp2
    go_ret2
    exact ⟨ret_wb (by rw [B.full, Hx.out]; rfl) (by rw [B.has, Hx.out]; rfl), Dr.refl _⟩

theorem quot_any (n a b : Int) (w : World) (h : B.Wds n a b) : ∃ (q r : Int) (ok : Bool),
    (Calls Tryz.prog 212 #[.int .i64 n, .int .u32 a, .int .u32 b] w fun e w' => e = .returned (.tuple #[.int .i64 q, .int .i64 r, .bool ok]) ∧ Dr w w') ∧
    ((b = 0 ∨ (B.sg n a = -B.pw (n - 1) ∧ B.sg n b = -1)) ∧ q = 0 ∧ r = 0 ∧ ok = false ∨
     ¬ (b = 0 ∨ (B.sg n a = -B.pw (n - 1) ∧ B.sg n b = -1)) ∧ q = (B.sg n a).tdiv (B.sg n b) ∧ r = (B.sg n a).tmod (B.sg n b) ∧ ok = true) := by
  by_cases hq : b = 0 ∨ (B.sg n a = -B.pw (n - 1) ∧ B.sg n b = -1)
  · exact ⟨0, 0, false, (quotient_none n a b w h hq).mono fun e w' ⟨h1, h2⟩ => ⟨h1, by rw [h2]; exact Dr.refl _⟩, .inl ⟨hq, rfl, rfl, rfl⟩⟩
  · exact ⟨_, _, true, quotient_some n a b w h hq, .inr ⟨hq, rfl, rfl, rfl⟩⟩

theorem does6 (w : World) : DoesAt 6 211 #[] w := by
  intro n a b h
  obtain ⟨q, r, ok, hQ, hcase⟩ := quot_any n a b w h
  have HQ := Lib.hid hQ; clear hQ
  obtain ⟨n0, n1, a0, a1, b0, b1⟩ := h
  have hl := B.pw_le n1
  have a2 : a < 4294967296 := by omega
  have b2 : b < 4294967296 := by omega
  show Calls Tryz.prog _ #[.int .i64 n, .int .u32 a, .int .u32 b] w _
  have HM := Lib.hid (fun W => mask_any n W (by omega) n1)
  have HS := Lib.hid (fun W => signed_any n a W n0 n1 a0 a1)
  rcases hcase with ⟨hq, rfl, rfl, rfl⟩ | ⟨hq, hq2, _, rfl⟩
  · have hx : B.do_ 6 n a b = none := by rw [B.do_6, if_pos hq]
    by_cases hb : b = 0
    · have hs : (b != 0) = false := by simpa using hb
      by_cases hsg : B.sg n a < 0
      · have hf : B.full 6 n a b = 1 ∧ B.has 6 n a b = false := by rw [B.full, B.has, hx]; simp [B.els, hb, hsg]
        have Hf := Lib.hid hf; clear hf hx hq hb a1 b1 hl
        go_enter Tryz.func211, Tryz.ntmps211
        go_wp2_with fail
        refine HQ.out.mono ?_
        rintro e w1 ⟨rfl, hd⟩
        go_wp2_with fail
        refine (HS.out _).mono ?_
        rintro e w' ⟨rfl, rfl⟩
        go_wp2
        go_ret2
        exact ⟨ret_wb Hf.out.1.symm Hf.out.2.symm, hd⟩
      · have hf : B.full 6 n a b = B.pw n - 1 ∧ B.has 6 n a b = false := by rw [B.full, B.has, hx]; simp [B.els, hb, hsg]
        have Hf := Lib.hid hf; clear hf hx hq hb a1 b1 hl
        go_enter Tryz.func211, Tryz.ntmps211
        go_wp2_with fail
        refine HQ.out.mono ?_
        rintro e w1 ⟨rfl, hd⟩
        go_wp2_with fail
        refine (HS.out _).mono ?_
        rintro e w' ⟨rfl, rfl⟩
        go_wp2_with fail
        refine (HM.out _).mono ?_
        rintro e w' ⟨rfl, rfl⟩
        go_wp2
        go_ret2
        exact ⟨ret_wb Hf.out.1.symm Hf.out.2.symm, hd⟩
    · have hs : (b != 0) = true := by simpa using hb
      have hf : B.full 6 n a b = a ∧ B.has 6 n a b = false := by rw [B.full, B.has, hx]; simp [B.els, hb]
      have Hf := Lib.hid hf; clear hf hx hq hb a1 b1 hl
      go_enter Tryz.func211, Tryz.ntmps211
      go_wp2_with fail
      refine HQ.out.mono ?_
      rintro e w1 ⟨rfl, hd⟩
      go_wp2
      go_ret2
      exact ⟨ret_wb Hf.out.1.symm Hf.out.2.symm, hd⟩
  · have hf : B.full 6 n a b = q % B.pw n ∧ B.has 6 n a b = true := by rw [B.full, B.has, B.do_6, if_neg hq, hq2]; exact ⟨rfl, rfl⟩
    have he := B.mask_mod q n1
    have Hf := Lib.hid hf
    have He := Lib.hid he; clear hf he hq hq2 a1 b1 hl
    generalize B.pw n - 1 = z at HM He
    go_enter Tryz.func211, Tryz.ntmps211
    go_wp2_with fail
    refine HQ.out.mono ?_
    rintro e w1 ⟨rfl, hd⟩
    go_wp2_with fail
    refine (HM.out _).mono ?_
    rintro e w' ⟨rfl, rfl⟩
    go_wp2
    go_ret2
    exact ⟨ret_wb (He.out.trans Hf.out.1.symm) Hf.out.2.symm, hd⟩

theorem does7 (w : World) : DoesAt 7 214 #[] w := by
  intro n a b h
  obtain ⟨q, r, ok, hQ, hcase⟩ := quot_any n a b w h
  have HQ := Lib.hid hQ; clear hQ
  obtain ⟨n0, n1, a0, a1, b0, b1⟩ := h
  have hl := B.pw_le n1
  have a2 : a < 4294967296 := by omega
  have b2 : b < 4294967296 := by omega
  show Calls Tryz.prog _ #[.int .i64 n, .int .u32 a, .int .u32 b] w _
  have HM := Lib.hid (fun W => mask_any n W (by omega) n1)
  rcases hcase with ⟨hq, rfl, rfl, rfl⟩ | ⟨hq, _, hq2, rfl⟩
  · have hx : B.do_ 7 n a b = none := by rw [B.do_7, if_pos hq]
    by_cases hb : b = 0
    · have hs : (b == 0) = true := by simpa using hb
      have hf : B.full 7 n a b = a ∧ B.has 7 n a b = false := by rw [B.full, B.has, hx]; simp [B.els, hb]
      have Hf := Lib.hid hf; clear hf hx hq hb a1 b1 hl
      go_enter Tryz.func214, Tryz.ntmps214
      go_wp2_with fail
      refine HQ.out.mono ?_
      rintro e w1 ⟨rfl, hd⟩
      go_wp2
      go_ret2
      exact ⟨ret_wb Hf.out.1.symm Hf.out.2.symm, hd⟩
    · have hs : (b == 0) = false := by simpa using hb
      have hf : B.full 7 n a b = 0 ∧ B.has 7 n a b = false := by rw [B.full, B.has, hx]; simp [B.els, hb]
      have he := B.mask_mod 0 n1
      have he2 : (0 : Int) % 4294967296 = 0 := rfl
      rw [he2, Int.zero_emod] at he
      have Hf := Lib.hid hf; clear hf hx hq hb a1 b1 hl he2
      have He := Lib.hid he; clear he
      generalize B.pw n - 1 = z at HM He
      go_enter Tryz.func214, Tryz.ntmps214
      go_wp2_with fail
      refine HQ.out.mono ?_
      rintro e w1 ⟨rfl, hd⟩
      go_wp2_with fail
      refine (HM.out _).mono ?_
      rintro e w' ⟨rfl, rfl⟩
      go_wp2
      go_ret2
      exact ⟨ret_wb (He.out.trans Hf.out.1.symm) Hf.out.2.symm, hd⟩
  · have hf : B.full 7 n a b = r % B.pw n ∧ B.has 7 n a b = true := by rw [B.full, B.has, B.do_7, if_neg hq, hq2]; exact ⟨rfl, rfl⟩
    have he := B.mask_mod r n1
    have Hf := Lib.hid hf
    have He := Lib.hid he; clear hf he hq hq2 a1 b1 hl
    generalize B.pw n - 1 = z at HM He
    go_enter Tryz.func214, Tryz.ntmps214
    go_wp2_with fail
    refine HQ.out.mono ?_
    rintro e w1 ⟨rfl, hd⟩
    go_wp2_with fail
    refine (HM.out _).mono ?_
    rintro e w' ⟨rfl, rfl⟩
    go_wp2
    go_ret2
    exact ⟨ret_wb (He.out.trans Hf.out.1.symm) Hf.out.2.symm, hd⟩

theorem does11 (w : World) : DoesAt 11 219 #[] w := by
  intro n a b h
  obtain ⟨n0, n1, a0, a1, b0, b1⟩ := h
  have hl := B.pw_le n1
  have a2 : a < 4294967296 := by omega
  have b2 : b < 4294967296 := by omega
  show Calls Tryz.prog _ #[.int .i64 n, .int .u32 a, .int .u32 b] w _
  have HM := Lib.hid (fun W => mask_any n W (by omega) n1)
  by_cases hb : n ≤ b
  · have hf : B.full 11 n a b = 0 ∧ B.has 11 n a b = false := by rw [B.full, B.has, B.do_11, if_pos hb]; exact ⟨rfl, rfl⟩
    have Hf := Lib.hid hf; clear hf a1 b1 hl
    go_enter Tryz.func219, Tryz.ntmps219
    go_wp2
    go_ret2
    exact ⟨ret_wb Hf.out.1.symm Hf.out.2.symm, Dr.refl _⟩
  · have hf : B.full 11 n a b = a * B.pw b % B.pw n ∧ B.has 11 n a b = true := by rw [B.full, B.has, B.do_11, if_neg hb]; exact ⟨rfl, rfl⟩
    have he := B.mask_mod (a * B.pw b) n1
    have hb' : b < n := by omega
    have Hf := Lib.hid hf
    have He := Lib.hid he; clear hf he a1 b1 hl hb
    generalize B.pw n - 1 = z at HM He
    go_enter Tryz.func219, Tryz.ntmps219
    go_wp2_with fail
    refine (HM.out _).mono ?_
    rintro e w' ⟨rfl, rfl⟩
    go_wp2
    go_ret2
    exact ⟨ret_wb (He.out.trans Hf.out.1.symm) Hf.out.2.symm, Dr.refl _⟩

theorem does12 (w : World) : DoesAt 12 221 #[] w := by
  intro n a b h
  obtain ⟨n0, n1, a0, a1, b0, b1⟩ := h
  have hl := B.pw_le n1
  have a2 : a < 4294967296 := by omega
  have b2 : b < 4294967296 := by omega
  show Calls Tryz.prog _ #[.int .i64 n, .int .u32 a, .int .u32 b] w _
  by_cases hb : n ≤ b
  · have hf : B.full 12 n a b = 0 ∧ B.has 12 n a b = false := by rw [B.full, B.has, B.do_12, if_pos hb]; exact ⟨rfl, rfl⟩
    have Hf := Lib.hid hf; clear hf a1 b1 hl
    go_enter Tryz.func221, Tryz.ntmps221
    go_wp2
    go_ret2
    exact ⟨ret_wb Hf.out.1.symm Hf.out.2.symm, Dr.refl _⟩
  · have hf : B.full 12 n a b = a / B.pw b ∧ B.has 12 n a b = true := by rw [B.full, B.has, B.do_12, if_neg hb]; exact ⟨rfl, rfl⟩
    have hb' : b < n := by omega
    have Hf := Lib.hid hf; clear hf a1 b1 hl hb
    go_enter Tryz.func221, Tryz.ntmps221
    go_wp2
    go_ret2
    exact ⟨ret_wb Hf.out.1.symm Hf.out.2.symm, Dr.refl _⟩

theorem does13 (w : World) : DoesAt 13 223 #[] w := by
  intro n a b h
  obtain ⟨n0, n1, a0, a1, b0, b1⟩ := h
  have hl := B.pw_le n1
  have a2 : a < 4294967296 := by omega
  have b2 : b < 4294967296 := by omega
  show Calls Tryz.prog _ #[.int .i64 n, .int .u32 a, .int .u32 b] w _
  have HM := Lib.hid (fun W => mask_any n W (by omega) n1)
  have HS := Lib.hid (fun W => signed_any n a W n0 n1 a0 a1)
  have HG := Lib.hid (fun W => sign_any n a W n0 n1 a0 a1)
  by_cases hb : n ≤ b
  · have hf : B.full 13 n a b = (if B.sg n a < 0 then B.pw n - 1 else 0) ∧ B.has 13 n a b = false := by rw [B.full, B.has, B.do_13, if_pos hb]; exact ⟨rfl, rfl⟩
    have Hf := Lib.hid hf; clear hf a1 b1 hl
    generalize (if B.sg n a < 0 then B.pw n - 1 else 0) = z at HG Hf
    go_enter Tryz.func223, Tryz.ntmps223
    go_wp2_with fail
    refine (HG.out _).mono ?_
    rintro e w' ⟨rfl, rfl⟩
    go_wp2
    go_ret2
    exact ⟨ret_wb Hf.out.1.symm Hf.out.2.symm, Dr.refl _⟩
  · have hf : B.full 13 n a b = B.sg n a / B.pw b % B.pw n ∧ B.has 13 n a b = true := by rw [B.full, B.has, B.do_13, if_neg hb]; exact ⟨rfl, rfl⟩
    have he := B.mask_mod (B.sg n a / B.pw b) n1
    have hb' : b < n := by omega
    have Hf := Lib.hid hf
    have He := Lib.hid he; clear hf he a1 b1 hl hb
    generalize B.pw n - 1 = z at HM He
    go_enter Tryz.func223, Tryz.ntmps223
    go_wp2_with fail
    refine (HS.out _).mono ?_
    rintro e w' ⟨rfl, rfl⟩
    go_wp2_with fail
    refine (HM.out _).mono ?_
    rintro e w' ⟨rfl, rfl⟩
    go_wp2
    go_ret2
    exact ⟨ret_wb (He.out.trans Hf.out.1.symm) Hf.out.2.symm, Dr.refl _⟩
end Go.Proofs.YtcmlmjbpdaecbaaGreat
end
section
namespace Go.Proofs.YtcmlmjbpdaecbaaGreat
open Go.RowKit Go.Maps Go.Shelf
set_option linter.unusedVariables false

set_option maxHeartbeats 400000 in
theorem fits_any (n : Int) (A : Option Addr) (m c : Nat) (xs : List Int) (w : World) (hA : SlAt (IntR .u32) w A m xs) :
    Calls Tryz.prog 189 #[.int .i64 n, .slice A m c] w fun e w' => e = .returned (.bool (B.isWd n && xs.all fun x => decide (x < B.pw n))) ∧ w = w' := by
  have hl := hA.le
  have HA := Lib.hid hA; clear hA
  have H1 := Lib.hid (isWidth_any n w)
  cases h : B.isWd n
  · rw [h] at H1
    clear h
    go_enter Tryz.func189, Tryz.ntmps189
    go_wp2_with fail
    refine H1.out.mono ?_
    rintro e w' ⟨rfl, rfl⟩
    go_wp2
    go_ret
    exact ⟨rfl, rfl⟩
  · have hn := B.isWd_iff.1 h
    rw [h] at H1
    have HM := Lib.hid (fun W => mask_any n W (by omega) hn.2)
    clear h hn
    go_enter Tryz.func189, Tryz.ntmps189
    go_wp2_with fail
    refine H1.out.mono ?_
    rintro e w' ⟨rfl, rfl⟩
    go_wp2
    go_loop [12] (fun i => ∃ k : Nat, k ≤ m ∧ i = .int .i64 k ∧ Hid ((xs.take k).all (fun x => decide (x < B.pw n)) = true)) (fun i => m - (intOf i).toNat)
    case atStart => exact ⟨0, Nat.zero_le _, rfl, rfl⟩
    case round =>
      obtain ⟨k, hk, rfl, HT⟩ := hrel
      by_cases hlt : k < m
      · obtain ⟨x, b, off, u, hx, rfl, _, h1, rfl⟩ := HA.out.at_ hlt
        have Hx := Lib.hid hx; clear hx
        by_cases hc : x < B.pw n
        · have hd : decide (B.pw n - 1 < x) = false := by simp; omega
          have Hc := Lib.hid hc; clear hc
          generalize B.pw n - 1 = z at HM hd
          go_wp2_with fail
          refine (HM.out _).mono ?_
          rintro e w' ⟨rfl, rfl⟩
          go_wp2
          go_round
          case rel => exact ⟨k + 1, by omega, by go_num, all_take_step Hx.out HT.out (by simpa using Hc.out)⟩
          case measure => simp [intOf]; omega
        · have hd : decide (B.pw n - 1 < x) = true := by simp; omega
          have Hc := Lib.hid (show decide (x < B.pw n) = false by simpa using hc); clear hc
          generalize B.pw n - 1 = z at HM hd
          go_wp2_with fail
          refine (HM.out _).mono ?_
          rintro e w' ⟨rfl, rfl⟩
          go_wp2
          go_ret
          exact ⟨ret_bool (by rw [all_false_at Hx.out Hc.out]; rfl), rfl⟩
      · go_wp2
        go_ret
        have h3 := HT.out
        rw [take_all HA.out.len (by omega)] at h3
        exact ⟨ret_bool (by rw [h3]), rfl⟩

theorem wraps_any (f g : Nat) (w : World) : Calls Tryz.prog 200 #[.func (.func f) #[] #[], .func (.func g) #[] #[]] w fun e w' =>
    e = .returned (.agg #[.func (.func 226) #[] #[.pointer (some ⟨w.heap.size, 0, none⟩)], .func (.func f) #[] #[], .nilFunc]) ∧ w'.heap[w.heap.size]? = some (.cells #[.func (.func g) #[] #[]] 264 (0, 0)) ∧ Below w.heap.size w w' ∧ w.heap.size < w'.heap.size := by
  go_enter Tryz.func200, Tryz.ntmps200
  go_wp2
  exact bodyPost_ret (v := .agg #[.func (.func 226) #[] #[.pointer (some ⟨w.heap.size, 0, none⟩)], .func (.func f) #[] #[], .nilFunc]) (by simp [results, Tryz.results200, go_sem]) rfl
    ⟨rfl, (Below.heap_alloc _ _ _ (by simp)).trans (heap_alloc_new w _), ((Below.refl _ _).alloc (Nat.le_refl _) _).alloc (by simp) _, by simp; omega⟩
theorem plain_any (g : Nat) (w : World) : Calls Tryz.prog 215 #[.func (.func g) #[] #[]] w fun e w' =>
    e = .returned (.agg #[.func (.func 227) #[] #[.pointer (some ⟨w.heap.size, 0, none⟩)], .nilFunc, .nilFunc]) ∧ w'.heap[w.heap.size]? = some (.cells #[.func (.func g) #[] #[]] 264 (0, 0)) ∧ Below w.heap.size w w' ∧ w.heap.size < w'.heap.size := by
  go_enter Tryz.func215, Tryz.ntmps215
  go_wp2
  exact bodyPost_ret (v := .agg #[.func (.func 227) #[] #[.pointer (some ⟨w.heap.size, 0, none⟩)], .nilFunc, .nilFunc]) (by simp [results, Tryz.results215, go_sem]) rfl
    ⟨rfl, (Below.heap_alloc _ _ _ (by simp)).trans (heap_alloc_new w _), ((Below.refl _ _).alloc (Nat.le_refl _) _).alloc (by simp) _, by simp; omega⟩

theorem elB_wraps {b B1 : Nat} {w : World} {k : Int} {g : Nat} {v1 v2 : Value} (hv : v1.oneCell' = true ∧ v2.oneCell' = true) {T : TypeId} (hB : w.heap[B1]? = some (.cells #[.func (.func g) #[] #[]] T (0, 0))) (hne : b < B1)
    (eg : ∀ args w, (callFunc g args).run Tryz.prog w = .ok (.enter g args) w) (x : Int → Int → Int)
    (hg : ∀ (a b : Int) (w : World), Calls Tryz.prog g #[.int .u32 a, .int .u32 b] w fun e w' => e = .returned (.int .u32 (x a b % 4294967296)) ∧ w = w') (hx : ∀ n a b, B.do_ k n a b = some (x a b % B.pw n)) :
    ElB b w k (.agg #[.func (.func 226) #[] #[.pointer (some ⟨B1, 0, none⟩)], v1, v2]) () :=
  ⟨_, _, _, _, [B1], rfl, hv, enters_of Tryz.func226 (by kernel_rfl) rfl, fun B0 h => by rw [List.mem_singleton.1 h]; exact ⟨(Array.getElem?_eq_some_iff.1 hB).1, hne⟩,
    fun W hW => wraps_do k g B1 W eg x (cell_of_one ((hW B1 (by simp)).trans hB)) (fun a b => hg a b W) hx⟩
theorem elB_plain {b B1 : Nat} {w : World} {k : Int} {g : Nat} {v1 v2 : Value} (hv : v1.oneCell' = true ∧ v2.oneCell' = true) {T : TypeId} (hB : w.heap[B1]? = some (.cells #[.func (.func g) #[] #[]] T (0, 0))) (hne : b < B1)
    (eg : ∀ args w, (callFunc g args).run Tryz.prog w = .ok (.enter g args) w) (x : Int → Int → Int)
    (hg : ∀ (a b : Int) (w : World), 0 ≤ a → a < 4294967296 → 0 ≤ b → b < 4294967296 → Calls Tryz.prog g #[.int .u32 a, .int .u32 b] w fun e w' => e = .returned (.int .u32 (x a b)) ∧ w = w') (hx : ∀ n a b, B.do_ k n a b = some (x a b)) :
    ElB b w k (.agg #[.func (.func 227) #[] #[.pointer (some ⟨B1, 0, none⟩)], v1, v2]) () :=
  ⟨_, _, _, _, [B1], rfl, hv, enters_of Tryz.func227 (by kernel_rfl) rfl, fun B0 h => by rw [List.mem_singleton.1 h]; exact ⟨(Array.getElem?_eq_some_iff.1 hB).1, hne⟩,
    fun W hW => plain_do k g B1 W eg x (cell_of_one ((hW B1 (by simp)).trans hB)) (fun a b => hg a b W) hx⟩
end Go.Proofs.YtcmlmjbpdaecbaaGreat
end
section
namespace Go.Proofs.YtcmlmjbpdaecbaaGreat
open Go.RowKit Go.Maps Go.Shelf
set_option linter.unusedVariables false

set_option maxRecDepth 100000 in
set_option maxHeartbeats 4000000 in
theorem operations_any (w : World) : Calls Tryz.prog 198 #[] w fun e w' => ∃ l, e = .returned (.map (some w.heap.size)) ∧ OpsAt w.heap.size w' l ∧ (∀ k, AL.get l k = if 1 ≤ k ∧ k ≤ 13 then some () else none) ∧ Below w.heap.size w w' := by
  have hmm := @run_makeMap Tryz.prog
  have K := int_keyed Tryz.underlying3
  go_enter Tryz.func198, Tryz.ntmps198
  go_wp2_with fail
  have ho0 := OpsAt.made w
  have hb0 : Below w.heap.size w (w.alloc (.map #[] 0)) := (Below.refl _ _).alloc (Nat.le_refl _) _
  refine (wraps_any _ _ _).mono ?_
  rintro e v1 ⟨rfl, hB, hb, hs'⟩
  have hB' := hB
  rw [World.size_alloc] at hB'
  have Ho := Lib.hid (ho0.below hb)
  have Hb := Lib.hid (hb0.trans (hb.mono hb0.size))
  have hs : w.heap.size < v1.heap.size := by simp at hs'; omega
  clear ho0 hb0 hs'
  have He1 := Lib.hid (elB_wraps (b := w.heap.size) (k := 1) (v1 := .func (.func 201) #[] #[]) (v2 := .nilFunc) ⟨rfl, rfl⟩ hB' (by omega) (enters_of Tryz.func202 (by kernel_rfl) rfl) (fun a b => a + b) small1_any B.do_1)
  clear hB hB' hb
  go_wp2_with (refine wpList_insert_at rfl (.tmp 1) (.const (.int .i64 1)) (.tmp 2) rfl Ho.out K (ek_int_inj .i64) Tryz.underlying258 1 (.agg #[.func (.func 226) #[] #[.pointer (some ⟨w.heap.size + 1, 0, none⟩)], .func (.func 201) #[] #[], .nilFunc]) (keyOf_int_mk Tryz.underlying3 rfl) rfl rfl rfl ?_; intro w1 hg hsz hput; replace Ho := Lib.hid (OpsAt.put hg hput (He1.out)); replace Hb := Lib.hid (below_put Hb.out (Nat.le_refl _) hg); have hs1 : w.heap.size < w1.heap.size := (by rw [hsz]; exact hs); replace hs := hs1; clear hg hput hsz hs1)
  refine (wraps_any _ _ _).mono ?_
  rintro e v2 ⟨rfl, hB, hb, hs'⟩
  have hB' := hB
  replace Ho := Lib.hid (Ho.out.below hb)
  replace Hb := Lib.hid (Hb.out.trans (hb.mono Hb.out.size))
  have hne := hs
  replace hs : w.heap.size < v2.heap.size := Nat.lt_trans hs hs'
  clear hs'
  have He2 := Lib.hid (elB_wraps (b := w.heap.size) (k := 2) (v1 := .func (.func 203) #[] #[]) (v2 := .nilFunc) ⟨rfl, rfl⟩ hB' hne (enters_of Tryz.func204 (by kernel_rfl) rfl) (fun a b => a - b) small2_any B.do_2)
  clear hB hB' hb hne
  go_wp2_with (refine wpList_insert_at rfl (.tmp 1) (.const (.int .i64 2)) (.tmp 3) rfl Ho.out K (ek_int_inj .i64) Tryz.underlying258 2 (.agg #[.func (.func 226) #[] #[.pointer (some ⟨w1.heap.size, 0, none⟩)], .func (.func 203) #[] #[], .nilFunc]) (keyOf_int_mk Tryz.underlying3 rfl) rfl rfl rfl ?_; intro w2 hg hsz hput; replace Ho := Lib.hid (OpsAt.put hg hput (He2.out)); replace Hb := Lib.hid (below_put Hb.out (Nat.le_refl _) hg); have hs2 : w.heap.size < w2.heap.size := (by rw [hsz]; exact hs); replace hs := hs2; clear hg hput hsz hs2)
  refine (wraps_any _ _ _).mono ?_
  rintro e v3 ⟨rfl, hB, hb, hs'⟩
  have hB' := hB
  replace Ho := Lib.hid (Ho.out.below hb)
  replace Hb := Lib.hid (Hb.out.trans (hb.mono Hb.out.size))
  have hne := hs
  replace hs : w.heap.size < v3.heap.size := Nat.lt_trans hs hs'
  clear hs'
  have He3 := Lib.hid (elB_wraps (b := w.heap.size) (k := 3) (v1 := .func (.func 205) #[] #[]) (v2 := .nilFunc) ⟨rfl, rfl⟩ hB' hne (enters_of Tryz.func207 (by kernel_rfl) rfl) (fun a b => a * b) small3_any B.do_3)
  clear hB hB' hb hne
  go_wp2_with (first | (refine wpList_insert_at rfl (.tmp 1) (.const (.int .i64 3)) (.tmp 4) rfl Ho.out K (ek_int_inj .i64) Tryz.underlying258 3 (.agg #[.func (.func 226) #[] #[.pointer (some ⟨w2.heap.size, 0, none⟩)], .func (.func 205) #[] #[], .nilFunc]) (keyOf_int_mk Tryz.underlying3 rfl) rfl rfl rfl ?_; intro w3 hg hsz hput; replace Ho := Lib.hid (OpsAt.put hg hput (He3.out)); replace Hb := Lib.hid (below_put Hb.out (Nat.le_refl _) hg); have hs3 : w.heap.size < w3.heap.size := (by rw [hsz]; exact hs); replace hs := hs3; clear hg hput hsz hs3) | (refine wpList_insert_at rfl (.tmp 1) (.const (.int .i64 4)) (.tmp 5) rfl Ho.out K (ek_int_inj .i64) Tryz.underlying258 4 (.agg #[.func (.func 208) #[] #[], .nilFunc, .func (.func 209) #[] #[]]) (keyOf_int_mk Tryz.underlying3 rfl) rfl rfl rfl ?_; intro w4 hg hsz hput; replace Ho := Lib.hid (OpsAt.put hg hput (elB_fn (b := w.heap.size) (k := 4) (v1 := .nilFunc) (v2 := .func (.func 209) #[] #[]) ⟨rfl, rfl⟩ (enters_of Tryz.func208 (by kernel_rfl) rfl) does4)); replace Hb := Lib.hid (below_put Hb.out (Nat.le_refl _) hg); have hs4 : w.heap.size < w4.heap.size := (by rw [hsz]; exact hs); replace hs := hs4; clear hg hput hsz hs4) | (refine wpList_insert_at rfl (.tmp 1) (.const (.int .i64 5)) (.tmp 6) rfl Ho.out K (ek_int_inj .i64) Tryz.underlying258 5 (.agg #[.func (.func 210) #[] #[], .nilFunc, .nilFunc]) (keyOf_int_mk Tryz.underlying3 rfl) rfl rfl rfl ?_; intro w5 hg hsz hput; replace Ho := Lib.hid (OpsAt.put hg hput (elB_fn (b := w.heap.size) (k := 5) (v1 := .nilFunc) (v2 := .nilFunc) ⟨rfl, rfl⟩ (enters_of Tryz.func210 (by kernel_rfl) rfl) does5)); replace Hb := Lib.hid (below_put Hb.out (Nat.le_refl _) hg); have hs5 : w.heap.size < w5.heap.size := (by rw [hsz]; exact hs); replace hs := hs5; clear hg hput hsz hs5) | (refine wpList_insert_at rfl (.tmp 1) (.const (.int .i64 6)) (.tmp 7) rfl Ho.out K (ek_int_inj .i64) Tryz.underlying258 6 (.agg #[.func (.func 211) #[] #[], .nilFunc, .func (.func 213) #[] #[]]) (keyOf_int_mk Tryz.underlying3 rfl) rfl rfl rfl ?_; intro w6 hg hsz hput; replace Ho := Lib.hid (OpsAt.put hg hput (elB_fn (b := w.heap.size) (k := 6) (v1 := .nilFunc) (v2 := .func (.func 213) #[] #[]) ⟨rfl, rfl⟩ (enters_of Tryz.func211 (by kernel_rfl) rfl) does6)); replace Hb := Lib.hid (below_put Hb.out (Nat.le_refl _) hg); have hs6 : w.heap.size < w6.heap.size := (by rw [hsz]; exact hs); replace hs := hs6; clear hg hput hsz hs6) | (refine wpList_insert_at rfl (.tmp 1) (.const (.int .i64 7)) (.tmp 8) rfl Ho.out K (ek_int_inj .i64) Tryz.underlying258 7 (.agg #[.func (.func 214) #[] #[], .nilFunc, .nilFunc]) (keyOf_int_mk Tryz.underlying3 rfl) rfl rfl rfl ?_; intro w7 hg hsz hput; replace Ho := Lib.hid (OpsAt.put hg hput (elB_fn (b := w.heap.size) (k := 7) (v1 := .nilFunc) (v2 := .nilFunc) ⟨rfl, rfl⟩ (enters_of Tryz.func214 (by kernel_rfl) rfl) does7)); replace Hb := Lib.hid (below_put Hb.out (Nat.le_refl _) hg); have hs7 : w.heap.size < w7.heap.size := (by rw [hsz]; exact hs); replace hs := hs7; clear hg hput hsz hs7))
  refine (plain_any _ _).mono ?_
  rintro e v8 ⟨rfl, hB, hb, hs'⟩
  have hB' := hB
  replace Ho := Lib.hid (Ho.out.below hb)
  replace Hb := Lib.hid (Hb.out.trans (hb.mono Hb.out.size))
  have hne := hs
  replace hs : w.heap.size < v8.heap.size := Nat.lt_trans hs hs'
  clear hs'
  have He8 := Lib.hid (elB_plain (b := w.heap.size) (k := 8) (v1 := .nilFunc) (v2 := .nilFunc) ⟨rfl, rfl⟩ hB' hne (enters_of Tryz.func216 (by kernel_rfl) rfl) (fun a b => ((a.toNat &&& b.toNat : Nat) : Int)) small8_any B.do_8)
  clear hB hB' hb hne
  go_wp2_with (refine wpList_insert_at rfl (.tmp 1) (.const (.int .i64 8)) (.tmp 9) rfl Ho.out K (ek_int_inj .i64) Tryz.underlying258 8 (.agg #[.func (.func 227) #[] #[.pointer (some ⟨w7.heap.size, 0, none⟩)], .nilFunc, .nilFunc]) (keyOf_int_mk Tryz.underlying3 rfl) rfl rfl rfl ?_; intro w8 hg hsz hput; replace Ho := Lib.hid (OpsAt.put hg hput (He8.out)); replace Hb := Lib.hid (below_put Hb.out (Nat.le_refl _) hg); have hs8 : w.heap.size < w8.heap.size := (by rw [hsz]; exact hs); replace hs := hs8; clear hg hput hsz hs8)
  refine (plain_any _ _).mono ?_
  rintro e v9 ⟨rfl, hB, hb, hs'⟩
  have hB' := hB
  replace Ho := Lib.hid (Ho.out.below hb)
  replace Hb := Lib.hid (Hb.out.trans (hb.mono Hb.out.size))
  have hne := hs
  replace hs : w.heap.size < v9.heap.size := Nat.lt_trans hs hs'
  clear hs'
  have He9 := Lib.hid (elB_plain (b := w.heap.size) (k := 9) (v1 := .nilFunc) (v2 := .nilFunc) ⟨rfl, rfl⟩ hB' hne (enters_of Tryz.func217 (by kernel_rfl) rfl) (fun a b => ((a.toNat ||| b.toNat : Nat) : Int)) small9_any B.do_9)
  clear hB hB' hb hne
  go_wp2_with (refine wpList_insert_at rfl (.tmp 1) (.const (.int .i64 9)) (.tmp 10) rfl Ho.out K (ek_int_inj .i64) Tryz.underlying258 9 (.agg #[.func (.func 227) #[] #[.pointer (some ⟨w8.heap.size, 0, none⟩)], .nilFunc, .nilFunc]) (keyOf_int_mk Tryz.underlying3 rfl) rfl rfl rfl ?_; intro w9 hg hsz hput; replace Ho := Lib.hid (OpsAt.put hg hput (He9.out)); replace Hb := Lib.hid (below_put Hb.out (Nat.le_refl _) hg); have hs9 : w.heap.size < w9.heap.size := (by rw [hsz]; exact hs); replace hs := hs9; clear hg hput hsz hs9)
  refine (plain_any _ _).mono ?_
  rintro e v10 ⟨rfl, hB, hb, hs'⟩
  have hB' := hB
  replace Ho := Lib.hid (Ho.out.below hb)
  replace Hb := Lib.hid (Hb.out.trans (hb.mono Hb.out.size))
  have hne := hs
  replace hs : w.heap.size < v10.heap.size := Nat.lt_trans hs hs'
  clear hs'
  have He10 := Lib.hid (elB_plain (b := w.heap.size) (k := 10) (v1 := .nilFunc) (v2 := .nilFunc) ⟨rfl, rfl⟩ hB' hne (enters_of Tryz.func218 (by kernel_rfl) rfl) (fun a b => ((a.toNat ^^^ b.toNat : Nat) : Int)) small10_any B.do_10)
  clear hB hB' hb hne
  go_wp2_with (first | (refine wpList_insert_at rfl (.tmp 1) (.const (.int .i64 10)) (.tmp 11) rfl Ho.out K (ek_int_inj .i64) Tryz.underlying258 10 (.agg #[.func (.func 227) #[] #[.pointer (some ⟨w9.heap.size, 0, none⟩)], .nilFunc, .nilFunc]) (keyOf_int_mk Tryz.underlying3 rfl) rfl rfl rfl ?_; intro w10 hg hsz hput; replace Ho := Lib.hid (OpsAt.put hg hput (He10.out)); replace Hb := Lib.hid (below_put Hb.out (Nat.le_refl _) hg); have hs10 : w.heap.size < w10.heap.size := (by rw [hsz]; exact hs); replace hs := hs10; clear hg hput hsz hs10) | (refine wpList_insert_at rfl (.tmp 1) (.const (.int .i64 11)) (.tmp 12) rfl Ho.out K (ek_int_inj .i64) Tryz.underlying258 11 (.agg #[.func (.func 219) #[] #[], .func (.func 220) #[] #[], .nilFunc]) (keyOf_int_mk Tryz.underlying3 rfl) rfl rfl rfl ?_; intro w11 hg hsz hput; replace Ho := Lib.hid (OpsAt.put hg hput (elB_fn (b := w.heap.size) (k := 11) (v1 := .func (.func 220) #[] #[]) (v2 := .nilFunc) ⟨rfl, rfl⟩ (enters_of Tryz.func219 (by kernel_rfl) rfl) does11)); replace Hb := Lib.hid (below_put Hb.out (Nat.le_refl _) hg); have hs11 : w.heap.size < w11.heap.size := (by rw [hsz]; exact hs); replace hs := hs11; clear hg hput hsz hs11) | (refine wpList_insert_at rfl (.tmp 1) (.const (.int .i64 12)) (.tmp 13) rfl Ho.out K (ek_int_inj .i64) Tryz.underlying258 12 (.agg #[.func (.func 221) #[] #[], .nilFunc, .func (.func 222) #[] #[]]) (keyOf_int_mk Tryz.underlying3 rfl) rfl rfl rfl ?_; intro w12 hg hsz hput; replace Ho := Lib.hid (OpsAt.put hg hput (elB_fn (b := w.heap.size) (k := 12) (v1 := .nilFunc) (v2 := .func (.func 222) #[] #[]) ⟨rfl, rfl⟩ (enters_of Tryz.func221 (by kernel_rfl) rfl) does12)); replace Hb := Lib.hid (below_put Hb.out (Nat.le_refl _) hg); have hs12 : w.heap.size < w12.heap.size := (by rw [hsz]; exact hs); replace hs := hs12; clear hg hput hsz hs12) | (refine wpList_insert_at rfl (.tmp 1) (.const (.int .i64 13)) (.tmp 14) rfl Ho.out K (ek_int_inj .i64) Tryz.underlying258 13 (.agg #[.func (.func 223) #[] #[], .nilFunc, .func (.func 225) #[] #[]]) (keyOf_int_mk Tryz.underlying3 rfl) rfl rfl rfl ?_; intro w13 hg hsz hput; replace Ho := Lib.hid (OpsAt.put hg hput (elB_fn (b := w.heap.size) (k := 13) (v1 := .nilFunc) (v2 := .func (.func 225) #[] #[]) ⟨rfl, rfl⟩ (enters_of Tryz.func223 (by kernel_rfl) rfl) does13)); replace Hb := Lib.hid (below_put Hb.out (Nat.le_refl _) hg); have hs13 : w.heap.size < w13.heap.size := (by rw [hsz]; exact hs); replace hs := hs13; clear hg hput hsz hs13))
  go_ret
  exact ⟨_, rfl, Ho.out, ops_get, Hb.out⟩
end Go.Proofs.YtcmlmjbpdaecbaaGreat
end
section
namespace Go.Proofs.YtcmlmjbpdaecbaaGreat
open Go.RowKit Go.Maps Go.Shelf
set_option linter.unusedVariables false
set_option linter.unusedSimpArgs false

theorem zeroOp (w : World) : (zeroValue 249).run Tryz.prog w = .ok (.agg #[.nilFunc, .nilFunc, .nilFunc]) w := by kernel_rfl

/-- two words, as a slice -/
theorem fits_two (n a b : Int) (p : Nat) (w : World) (h0 : w.cell? ⟨p, 0, none⟩ = some (.int .u32 a)) (h1 : w.cell? ⟨p, 1, none⟩ = some (.int .u32 b)) :
    Calls Tryz.prog 189 #[.int .i64 n, .slice (some ⟨p, 0, none⟩) 2 2] w fun e w' => e = .returned (.bool (B.isW n a && B.isW n b)) ∧ w = w' := by
  have hs : SlAt (IntR .u32) w (some ⟨p, 0, none⟩) 2 [a, b] := by
    refine ⟨rfl, by omega, fun k x hx => ?_⟩
    have hlt := World.block_lt_of_cell? _ _ h0
    match k, hx with
    | 0, hx => cases hx; exact ⟨_, _, _, rfl, hlt, h0, rfl⟩
    | 1, hx => cases hx; exact ⟨_, _, _, rfl, hlt, h1, rfl⟩
    | k + 2, hx => simp at hx
  refine (fits_any n _ 2 2 [a, b] w hs).mono fun e w' ⟨he, hw⟩ => ⟨he.trans (ret_bool ?_), hw⟩
  simp only [B.isW, List.all_cons, List.all_nil, Bool.and_true]
  cases B.isWd n <;> simp

set_option maxRecDepth 100000 in
set_option maxHeartbeats 2000000 in
theorem asked_any (op n a b : Int) (w : World) (hop : (Lit.int .i64 op).wf = true) : Calls Tryz.prog 191 #[.int .i64 op, .int .i64 n, .int .u32 a, .int .u32 b] w fun e w' =>
    ∃ u : Value, e = .returned (.tuple #[u, .bool (B.okOp op n a b)]) ∧ Below w.heap.size w w' ∧ w.heap.size < w'.heap.size ∧ ((B.okOp op n a b = true ∧ ∃ bm, ElB bm w' op u ()) ∨ B.okOp op n a b = false ∧ ∃ u0 u1 u2, u = .agg #[u0, u1, u2] ∧ u0.oneCell' = true ∧ u1.oneCell' = true ∧ u2.oneCell' = true) := by
  have HO := Lib.hid (fun W => operations_any W)
  have HF := Lib.hid (fun p W h0 h1 => fits_two n a b p W h0 h1)
  have K := int_keyed Tryz.underlying3
  have facts : ∀ w1 : World, Below (w.alloc (.cells #[.nilFunc, .nilFunc, .nilFunc] 249)).heap.size (w.alloc (.cells #[.nilFunc, .nilFunc, .nilFunc] 249)) w1 → 
      w1.cell? ⟨w.heap.size, 0, none⟩ = some .nilFunc ∧ w1.cell? ⟨w.heap.size, 1, none⟩ = some .nilFunc ∧ w1.cell? ⟨w.heap.size, 2, none⟩ = some .nilFunc ∧ (∀ j, w1.frozen? ⟨w.heap.size, j, none⟩ = false) ∧ w.heap.size < w1.heap.size := fun w1 hb =>
    ⟨(hb.cell (p := ⟨w.heap.size, 0, none⟩) (by simp)).trans (by rw [cell_of_row _ _ _ _ _ (0, 0) (heap_alloc_new w _)]; rfl), (hb.cell (p := ⟨w.heap.size, 1, none⟩) (by simp)).trans (by rw [cell_of_row _ _ _ _ _ (0, 0) (heap_alloc_new w _)]; rfl),
      (hb.cell (p := ⟨w.heap.size, 2, none⟩) (by simp)).trans (by rw [cell_of_row _ _ _ _ _ (0, 0) (heap_alloc_new w _)]; rfl), fun j => (hb.frozen (p := ⟨w.heap.size, j, none⟩) (by simp)).trans (by simp [go_sem]), by have := hb.size; simp at this; omega⟩
  have Hfacts := Lib.hid facts; clear facts
  by_cases hk : 1 ≤ op ∧ op ≤ 13
  · go_enter Tryz.func191, Tryz.ntmps191
    go_wp2_with fail
    refine (HO.out _).mono ?_
    rintro e w1 ⟨l, rfl, ho, hget, hb⟩
    obtain ⟨u, hl0, hlook, hu⟩ := MapAt.lookup ho K (ek_int_inj .i64) Tryz.underlying258 (zeroOp w1) (k := op) (keyOf_int_mk Tryz.underlying3 hop)
    rw [World.size_alloc] at hlook
    rw [hget op, if_pos hk] at hlook hu
    rw [show (some ()).isSome = true from rfl] at hlook
    have hel : ElB (w.alloc (.cells #[.nilFunc, .nilFunc, .nilFunc] 249)).heap.size w1 op u () := by
      rcases hu with ⟨h, _⟩ | ⟨_, _, h⟩
      · cases h
      · exact h
    have Hel := Lib.hid hel
    obtain ⟨f, caps, v1, v2, own, rfl, ⟨hv1, hv2⟩, hr0⟩ := hel
    have hst1 : ∀ W A m, (store A v1 m).run Tryz.prog W = stored Tryz.prog W A v1 m := fun W A m => run_store _ W A v1 m hv1
    have hst2 : ∀ W A m, (store A v2 m).run Tryz.prog W = stored Tryz.prog W A v2 m := fun W A m => run_store _ W A v2 m hv2
    have HV := Lib.hid (And.intro hv1 hv2)
    clear hv1 hv2 hu hget ho hl0 hr0
    obtain ⟨hc0, hc1, hc2, hf0, hsz⟩ := Hfacts.out _ hb
    have Hb := Lib.hid hb; clear hb
    have hret : ∀ (a' : Act) (W : World), a'.tmps.getD 8 undef = .pointer (some ⟨w.heap.size, 0, none⟩) → a'.tmps.getD 9 undef = .bool (B.isW n a && B.isW n b) → a'.defers = [] →
        W = (((((w1.setCell ⟨w.heap.size, 0, none⟩ (.func (.func f) #[] caps)).setCell ⟨w.heap.size, 1, none⟩ v1).setCell ⟨w.heap.size, 2, none⟩ v2).alloc (.cells #[.func (.func f) #[] caps, v1, v2] 249)).alloc (.cells #[.int .u32 a, .int .u32 b] 61)).drew →
        bodyPost Tryz.prog Tryz.f191 (fun e w' => ∃ u : Value, e = .returned (.tuple #[u, .bool (B.okOp op n a b)]) ∧ Below w.heap.size w w' ∧ w.heap.size < w'.heap.size ∧ ((B.okOp op n a b = true ∧ ∃ bm, ElB bm w' op u ()) ∨ B.okOp op n a b = false ∧ ∃ u0 u1 u2, u = .agg #[u0, u1, u2] ∧ u0.oneCell' = true ∧ u1.oneCell' = true ∧ u2.oneCell' = true)) Exit.ret a' W := by
      intro a' W h8 h9 hd hW
      subst hW
      rw [Array.getD_eq_getD_getElem?] at h8 h9
      have hbig : Below w.heap.size w (((((w1.setCell ⟨w.heap.size, 0, none⟩ (.func (.func f) #[] caps)).setCell ⟨w.heap.size, 1, none⟩ v1).setCell ⟨w.heap.size, 2, none⟩ v2).alloc (.cells #[.func (.func f) #[] caps, v1, v2] 249)).alloc (.cells #[.int .u32 a, .int .u32 b] 61)).drew :=
        (((((((Below.refl _ _).alloc (Nat.le_refl _) _).trans (Hb.out.mono (by simp))).setCell (p := ⟨w.heap.size, 0, none⟩) (Nat.le_refl _) _).setCell (p := ⟨w.heap.size, 1, none⟩) (Nat.le_refl _) _).setCell (p := ⟨w.heap.size, 2, none⟩) (Nat.le_refl _) _).alloc (by simp; omega) _).alloc (by simp; omega) _ |>.drew
      refine bodyPost_ret (v := .tuple #[.agg #[.func (.func f) #[] caps, v1, v2], .bool (B.isW n a && B.isW n b)]) ?_ hd ⟨.agg #[.func (.func f) #[] caps, v1, v2], ?_, hbig, by simp; omega, ?_⟩
      · simp [results, Tryz.results191, go_sem, h8, h9, hc0, hc1, hc2, hf0, hsz]
      · have e : B.okOp op n a b = (B.isW n a && B.isW n b) := by unfold B.okOp; simp [hk.1, hk.2]
        rw [e]
      · cases hok : B.okOp op n a b
        · exact .inr ⟨rfl, _, _, _, rfl, rfl, HV.out.1, HV.out.2⟩
        · refine .inl ⟨rfl, (w.alloc (.cells #[.nilFunc, .nilFunc, .nilFunc] 249)).heap.size, ?_⟩
          refine elB_store Hel.out (by simp; omega) fun B0 h1 h2 => ?_
          rw [World.size_alloc] at h1
          show (World.alloc (World.alloc (World.setCell (World.setCell (World.setCell w1 ⟨w.heap.size, 0, none⟩ _) ⟨w.heap.size, 1, none⟩ _) ⟨w.heap.size, 2, none⟩ _) _) _).heap[B0]? = w1.heap[B0]?
          rw [Below.heap_alloc _ _ _ (by simp; omega), Below.heap_alloc _ _ _ (by simp; omega), heap_set3 _ _ _ _ _ _ (by omega)]
    have Hret := Lib.hid hret; clear hret
    go_wp2_with fail
    go_region_with ((go_at_call 189; refine Calls.mono (HF.out _ _ ?_ ?_) ?_; go_simp; go_simp; rintro e w5 ⟨rfl, rfl⟩))
    all_goals go_wp2
    all_goals exact Hret.out _ _ rfl rfl rfl rfl
  · go_enter Tryz.func191, Tryz.ntmps191
    go_wp2_with fail
    refine (HO.out _).mono ?_
    rintro e w1 ⟨l, rfl, ho, hget, hb⟩
    obtain ⟨u, hl0, hlook, hu⟩ := MapAt.lookup ho K (ek_int_inj .i64) Tryz.underlying258 (zeroOp w1) (k := op) (keyOf_int_mk Tryz.underlying3 hop)
    rw [World.size_alloc] at hlook
    rw [hget op, if_neg hk] at hlook hu
    rw [show (none : Option Unit).isSome = false from rfl] at hlook
    obtain rfl : u = .agg #[.nilFunc, .nilFunc, .nilFunc] := by
      rcases hu with ⟨_, h⟩ | ⟨_, h, _⟩
      · exact h
      · cases h
    clear hu hget ho hl0
    obtain ⟨hc0, hc1, hc2, hf0, hsz⟩ := Hfacts.out _ hb
    have Hb := Lib.hid hb; clear hb
    have Hk := Lib.hid hk; clear hk
    go_wp2_with fail
    go_big_region
    all_goals go_wp2
    all_goals
      have hbig : Below w.heap.size w ((((w1.setCell ⟨w.heap.size, 0, none⟩ .nilFunc).setCell ⟨w.heap.size, 1, none⟩ .nilFunc).setCell ⟨w.heap.size, 2, none⟩ .nilFunc).alloc (.cells #[.nilFunc, .nilFunc, .nilFunc] 249)).drew :=
        (((((((Below.refl _ _).alloc (Nat.le_refl _) _).trans (Hb.out.mono (by simp))).setCell (p := ⟨w.heap.size, 0, none⟩) (Nat.le_refl _) _).setCell (p := ⟨w.heap.size, 1, none⟩) (Nat.le_refl _) _).setCell (p := ⟨w.heap.size, 2, none⟩) (Nat.le_refl _) _).alloc (by simp; omega) _).drew
      refine bodyPost_ret (v := .tuple #[.agg #[.nilFunc, .nilFunc, .nilFunc], .bool false]) ?_ rfl ⟨.agg #[.nilFunc, .nilFunc, .nilFunc], ?_, hbig, by simp; omega, ?_⟩
      · simp [results, Tryz.results191, go_sem, hc0, hc1, hc2, hf0, hsz]
      · have e : B.okOp op n a b = false := by
          have h1 : (decide (1 ≤ op) && decide (op ≤ 13)) = false := by
            have := Hk.out
            by_cases h : 1 ≤ op
            · have : ¬ op ≤ 13 := fun h' => this ⟨h, h'⟩
              simp [this]
            · simp [h]
          unfold B.okOp; rw [h1]; rfl
        rw [e]
      · refine .inr ⟨?_, _, _, _, rfl, rfl, rfl, rfl⟩
        have h1 : (decide (1 ≤ op) && decide (op ≤ 13)) = false := by
          have := Hk.out
          by_cases h : 1 ≤ op
          · have : ¬ op ≤ 13 := fun h' => this ⟨h, h'⟩
            simp [this]
          · simp [h]
        unfold B.okOp; rw [h1]; rfl
end Go.Proofs.YtcmlmjbpdaecbaaGreat
end
section
namespace Go.Proofs.YtcmlmjbpdaecbaaGreat
open Go.RowKit Go.Maps Go.Shelf
set_option linter.unusedVariables false

set_option maxRecDepth 100000 in
set_option maxHeartbeats 2000000 in
theorem total_any (op n a b : Int) (w : World) (hop : (Lit.int .i64 op).wf = true) (ha : 0 ≤ a) (hb : 0 ≤ b) : Calls Tryz.prog 174 #[.int .i64 op, .int .i64 n, .int .u32 a, .int .u32 b] w fun e w' =>
    e = .returned (.tuple #[.int .u32 (B.total op n a b).1, .int .i64 (B.total op n a b).2]) ∧ Below w.heap.size w w' := by
  have HA := Lib.hid (asked_any op n a b w hop)
  cases hok : B.okOp op n a b
  · have ht : B.total op n a b = (0, 1) := by unfold B.total; rw [if_neg (by rw [hok]; simp)]
    rw [hok] at HA
    rw [ht]
    clear ht hok
    go_enter Tryz.func174, Tryz.ntmps174
    go_wp2_with fail
    refine HA.out.mono ?_
    rintro e w1 ⟨u, rfl, hbw, hsz, hcase⟩
    obtain ⟨u0, u1, u2, rfl, h0, h1, h2⟩ : ∃ u0 u1 u2, u = .agg #[u0, u1, u2] ∧ u0.oneCell' = true ∧ u1.oneCell' = true ∧ u2.oneCell' = true := by
      rcases hcase with ⟨h, _⟩ | ⟨_, h⟩
      · cases h
      · exact h
    have hst0 : ∀ W A m, (store A u0 m).run Tryz.prog W = stored Tryz.prog W A u0 m := fun W A m => run_store _ W A u0 m h0
    have hst1 : ∀ W A m, (store A u1 m).run Tryz.prog W = stored Tryz.prog W A u1 m := fun W A m => run_store _ W A u1 m h1
    have hst2 : ∀ W A m, (store A u2 m).run Tryz.prog W = stored Tryz.prog W A u2 m := fun W A m => run_store _ W A u2 m h2
    clear h0 h1 h2 hcase
    go_wp2
    go_ret2
    exact ⟨rfl, hbw.alloc hbw.size _⟩
  · have ht : B.total op n a b = (B.full op n a b, 0) := by unfold B.total; rw [if_pos hok]
    have hw : B.Wds n a b := by
      unfold B.okOp at hok
      simp only [Bool.and_eq_true, B.isW_iff, decide_eq_true_eq] at hok
      obtain ⟨⟨_, h1, h2, h3⟩, _, _, h4⟩ := hok
      exact ⟨h1, h2, ha, h3, hb, h4⟩
    rw [hok] at HA
    have Ht := Lib.hid ht; clear ht
    have Hok := Lib.hid hok; clear hok
    have Hw := Lib.hid hw; clear hw
    rw [Ht.out]
    go_enter Tryz.func174, Tryz.ntmps174
    go_wp2_with fail
    refine HA.out.mono ?_
    rintro e w1 ⟨u, rfl, hbw, hsz, hcase⟩
    obtain ⟨bm, hel⟩ : ∃ bm, ElB bm w1 op u () := by
      rcases hcase with ⟨_, h⟩ | ⟨h, _⟩
      · exact h
      · cases h
    obtain ⟨f, caps, v1, v2, own, rfl, ⟨hv1, hv2⟩, eg, ho, hd⟩ := hel
    have hst1 : ∀ W A m, (store A v1 m).run Tryz.prog W = stored Tryz.prog W A v1 m := fun W A m => run_store _ W A v1 m hv1
    have hst2 : ∀ W A m, (store A v2 m).run Tryz.prog W = stored Tryz.prog W A v2 m := fun W A m => run_store _ W A v2 m hv2
    have con := hd (w1.alloc (.cells #[.func (.func f) #[] caps, v1, v2] 249)) (fun B0 hB => Below.heap_alloc _ _ _ (ho B0 hB).1) n a b Hw.out
    have Hcon := Lib.hid con; clear con
    clear hv1 hv2 hcase ho hd
    go_wp2_with fail
    refine Hcon.out.mono ?_
    rintro e w2 ⟨rfl, hdr⟩
    go_wp2
    go_ret2
    exact ⟨rfl, (hbw.alloc hbw.size _).dr hdr⟩
end Go.Proofs.YtcmlmjbpdaecbaaGreat
end
section
namespace Go.Proofs.YtcmlmjbpdaecbaaGreat.B

end Go.Proofs.YtcmlmjbpdaecbaaGreat.B
end
