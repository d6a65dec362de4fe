/- Part. -/
import Derived.Test.YtchdbhggbdcapaaGreatSuLX
import Derived.Test.YtchdbhggbdcapaaGreatSu08
set_option linter.unusedVariables false
set_option linter.unusedSimpArgs false
set_option maxRecDepth 100000
set_option maxHeartbeats 16000000
namespace Go.Proofs.YtchdbhggbdcapaaGreat
open _root_.Go.Proofs.Tryz
section
open Go.RowKit
theorem aGe(t:List T.Nd)(n ct:Nat)(At:Option Addr)(W:World)(hT:StAt 5 NdR W At n t):Calls prog 22 #[.slice At n ct] W (WsR t W):=by
 have HV:=kH (aE0 t n ct At W hT);have HT:=kH hT;have hlen:=hT.len;clear hT
 by_cases hv:T.valid true t=0
 ·obtain⟨v1,v2,v3,v4,v5⟩:=aBk hv;rw[hv]at HV;have HW:=kH (fun W' (h:Below W.heap.size W W')=>aLu t n ct At W' (HT.out.below aAh h) (T.aFc v3 (aBq HT.out)) (by omega));have Hv:=kH hv;clear hv v1 v2 v3 v4 v5 hlen
  go_enter func22,ntmps22
  go_wp2_with fail
  refine HV.out.mono ?_;rintro e w1 ⟨rfl,hb1⟩;have Hb1:=kH hb1;clear hb1
  go_wp2_with fail
  refine(HW.out _ Hb1.out).mono ?_;rintro e w2 ⟨g,rfl,hg,hrow,hb2⟩;have Hb2:=kH (Hb1.out.trans (hb2.mono Hb1.out.size));have Hg:=kH (zBK Hb1.out.size hg);have Hrow:=kH hrow;clear hb2 hg hrow;go_wp2;go_ret2;exact⟨Hb2.out, .inr ⟨Hv.out,g,rfl,Hg.out,Hrow.out⟩⟩
 ·have Hv:=kH hv;obtain⟨er,her⟩:∃er,er=T.valid true t:=⟨_,rfl⟩;rw[<-her]at HV hv;have hvb:(er != 0)=true:=by simpa using hv
  have Her:=kH her;clear her hlen
  go_enter func22,ntmps22
  go_wp2_with fail
  refine HV.out.mono ?_;rintro e w1 ⟨rfl,hb1⟩;have Hb1:=kH hb1;clear hb1;go_wp2;go_ret2;exact⟨Hb1.out, .inl ⟨Hv.out,by rw[<-Her.out];rfl⟩⟩
end
end Go.Proofs.YtchdbhggbdcapaaGreat
