/- Part. -/
import Derived.Test.YtchdbhggbdcapaaGreatSuLX
import Derived.Test.YtchdbhggbdcapaaGreatSu28
set_option linter.unusedVariables false
set_option linter.unusedSimpArgs false
set_option maxRecDepth 100000
set_option maxHeartbeats 16000000
namespace Go.Proofs.YtchdbhggbdcapaaGreat
open _root_.Go.Proofs.Tryz
section
open Go.RowKit
theorem aN5{t:List T.Nd}(h:(aBi t).2=0):aAb t=0/\C.total (T.aAa t)<=16/\(aBi t).1=(C.cntTo t (C.nEnv t):Int)/\(envsE t).1=(C.nEnv t:Int):=by
 unfold aBi at h⊢
 by_cases h0:aAb t≠0
 ·rw[if_pos h0]at h;exact absurd h h0
 ·rw[if_neg h0]at h⊢
  by_cases h1:16<C.total (T.aAa t)
  ·rw[if_pos h1]at h;cases h
  ·rw[if_neg h1];have h2:aAb t=0:=by omega
   refine⟨h2,by omega,rfl,?_⟩;unfold envsE;rw[if_neg (by simp[(aBa h2).1]),if_neg h1];rfl
end
end Go.Proofs.YtchdbhggbdcapaaGreat
