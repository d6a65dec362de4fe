/- The values of a term: the program's closure that reads an operand's value. -/
import Derived.Test.YtableoihgkmbjaaGreatPlainT3
namespace Go.Proofs.YtableoihgkmbjaaGreat
open Go.RowKit
set_option linter.unusedVariables false
set_option linter.unusedSimpArgs false

set_option maxHeartbeats 1000000 in
theorem valClo_any (ws args : List Int) (i Bv Bx n m c cv : Nat) (Av A : Option Addr) (W : World) (hV : SlAt (IntR .u32) W Av n ws) (hA : SlAt (IntR .i64) W A m args) (hBv : W.cell? ⟨Bv, 0, none⟩ = some (.slice Av n cv)) (hBx : W.cell? ⟨Bx, 3, none⟩ = some (.slice A m c))
    (hi : i < m) (ha : 0 ≤ args.getD i 0 ∧ args.getD i 0 < n) :
    Calls Tryz.prog 98 #[.int .i64 (i : Int), .pointer (some ⟨Bv, 0, none⟩), .pointer (some ⟨Bx, 0, none⟩)] W fun e w' => e = .returned (.int .u32 (ws.getD (args.getD i 0).toNat 0)) ∧ Dr W w' := by
  obtain ⟨y, b, off, u, hy, rfl, hb, hc, rfl⟩ := hA.at_ hi
  rw [getD_of hy] at ha ⊢
  obtain ⟨j, rfl⟩ : ∃ j : Nat, y = j := ⟨y.toNat, by omega⟩
  have hj : j < n := by omega
  obtain ⟨v, b2, off2, u2, hv, rfl, hb2, hc2, rfl⟩ := hV.at_ hj
  rw [Int.toNat_natCast, getD_of hv]
  have hle := hA.le
  have hle2 := hV.le
  clear hy hA hV hv hb ha hb2
  go_enter Tryz.func98, Tryz.ntmps98
  go_wp2
  go_quiet (fail)
  go_wp2
  go_ret
  exact ⟨rfl, _, rfl⟩
end Go.Proofs.YtableoihgkmbjaaGreat
