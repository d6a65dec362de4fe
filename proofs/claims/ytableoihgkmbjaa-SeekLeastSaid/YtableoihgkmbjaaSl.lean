/- Laws of cutting slices, whatever the elements' size. No program. -/
import Derived.Test.YtableoihgkmbjaaBase
namespace Go.Proofs.Ytableoihgkmbjaa
set_option linter.unusedVariables false
set_option linter.unusedSimpArgs false
open Go.RowKit
theorem run_slice_to {P : Program} {t e : TypeId} {z : Value} {s bytes : Nat} (ht : P.underlying t = some (.slice e)) (hinfo : (P.info? e).map (fun i => (i.zero, i.size, i.bytes)) = some (some z, s, bytes)) (g off n cap k : Nat) (hk : k ≤ cap) (w : World) :
    (Instr.slice t (.slice (some ⟨g, off, none⟩) n cap) none (some (.int .i64 (k : Int))) none).run P w = .ok (.slice (some ⟨g, off, none⟩) k cap) w := by
  obtain ⟨i, hi, hz, hsz, hby⟩ := info_parts hinfo
  simp [Instr.slice, Instr.sliceBounds, Instr.sliceBound, run_underlying ht, asIntOf, sizeOf, typeInfo, hi, hsz, hk, addr_add_zero]
theorem run_slice_fromN {P : Program} {t e : TypeId} {z : Value} {s bytes : Nat} (ht : P.underlying t = some (.slice e)) (hinfo : (P.info? e).map (fun i => (i.zero, i.size, i.bytes)) = some (some z, s, bytes)) (g off n cap K : Nat) (hk : K ≤ n) (w : World) :
    (Instr.slice t (.slice (some ⟨g, off, none⟩) n cap) (some (.int .i64 (K : Int))) none none).run P w = .ok (.slice (if cap = K then some ⟨g, off, none⟩ else some ⟨g, off + K * s, none⟩) (n - K) (cap - K)) w := by
  obtain ⟨i, hi, hz, hsz, hby⟩ := info_parts hinfo
  simp [Instr.slice, Instr.sliceBounds, Instr.sliceBound, run_underlying ht, asIntOf, sizeOf, typeInfo, hi, hsz, hk]
  by_cases hck : cap = K
  · simp [hck]
  · simp [hck, addr_add_zero]
end Go.Proofs.Ytableoihgkmbjaa
