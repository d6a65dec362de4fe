/- Part. -/
import Derived.Test.YtchdbhggbdcapaaGreatSuLX
import Derived.Test.YtchdbhggbdcapaaGreatSu32
import Derived.Test.YtchdbhggbdcapaaGreatSu33
set_option linter.unusedVariables false
set_option linter.unusedSimpArgs false
set_option maxRecDepth 100000
set_option maxHeartbeats 16000000
namespace Go.Proofs.YtchdbhggbdcapaaGreat
open _root_.Go.Proofs.Tryz
section
open Go.RowKit
theorem aKw(t:List T.Nd)(n ct:Nat)(At:Option Addr)(W:World)(hT:StAt 5 NdR W At n t):
 Calls prog 15 #[.slice At n ct] W fun e w'=>e= .returned (.tuple #[.bool (aCe t).1, .int .i64 (aCe t).2])/\Below W.heap.size W w':=by
 have HC:=kH (aJe t n ct At W hT);have HE:=kH (fun X (hX:Below W.heap.size W X)=>aEq t n ct At X (hT.below aAh hX));clear hT;obtain⟨c2,hc2⟩:∃c,(aBi t).2=c:=⟨_,rfl⟩;rw[hc2]at HC;have Hc2:=kH hc2;clear hc2
 by_cases h0:c2=0
 ·subst h0;obtain⟨k1,k2,k3,k4⟩:=aN5 Hc2.out;have he:aCe t=(decide (C.cntTo t (C.nEnv t)=C.nEnv t),0):=by unfold aCe;rw[if_neg (by simp[Hc2.out])]
  rw[he];rw[k3]at HC;rw[k4]at HE;obtain⟨x,hx⟩:∃x,C.cntTo t (C.nEnv t)=x:=⟨_,rfl⟩;obtain⟨y,hy⟩:∃y,C.nEnv t=y:=⟨_,rfl⟩;rw[hx]at HC⊢;rw[hy]at HE⊢;clear he k1 k2 k3 k4 hx hy
  go_enter func15,ntmps15
  go_wp2_with fail
  refine HC.out.mono ?_;rintro e w1 ⟨rfl,hb1⟩;have HEk:=kH (HE.out w1 hb1);have Hb1:=kH hb1;clear hb1 HC HE
  go_wp2_with fail
  refine HEk.out.mono ?_;rintro e w2 ⟨rfl,hb2⟩;have Hb2:=kH (Hb1.out.trans (hb2.mono Hb1.out.size));clear hb2 HEk
  by_cases hxy:x=y
  ·subst hxy;go_wp2;go_ret2;exact⟨by simp,Hb2.out⟩
  ·have hq:((x:Int)==(y:Int))=false:=by simp;omega
   have Hxy:=kH hxy;go_wp2;go_ret2;exact⟨by rw[zBP Hxy.out];rfl,Hb2.out⟩
 ·have hq:(c2 == 0)=false:=by simpa using h0
  have hq2:(c2 != 0)=true:=by simpa using h0
  have he:aCe t=(false,c2):=by unfold aCe;rw[Hc2.out,if_pos h0]
  rw[he];clear h0 he
  go_enter func15,ntmps15
  go_wp2_with fail
  refine HC.out.mono ?_;rintro e w1 ⟨rfl,hb1⟩;have Hb1:=kH hb1;clear hb1 HC HE;go_wp2;go_ret2;exact⟨rfl,Hb1.out⟩
end
end Go.Proofs.YtchdbhggbdcapaaGreat
