/- Part. -/
import Derived.Test.YtchdbhggbdcapaaGreatSuLX
import Derived.Test.YtchdbhggbdcapaaGreatSu28
set_option linter.unusedVariables false
set_option linter.unusedSimpArgs false
set_option maxRecDepth 100000
set_option maxHeartbeats 16000000
namespace Go.Proofs.YtchdbhggbdcapaaGreat
open _root_.Go.Proofs.Tryz
section
open Go.RowKit
theorem aEc(t:List T.Nd)(n ct:Nat)(At:Option Addr)(W:World)(hT:StAt 5 NdR W At n t):
 Calls prog 13 #[.slice At n ct] W fun e w'=>e= .returned (.int .i64 (aAb t))/\Below W.heap.size W w':=by
 have HV:=kH (aE0 t n ct At W hT);have HT:=kH hT;obtain⟨v,hv⟩:∃v,T.valid true t=v:=⟨_,rfl⟩;have hce:aAb t=if v≠0 then v else if rootW t≠1 then 6 else 0:=by unfold aAb;rw[hv]
 rw[hv]at HV;have Hv:=kH hv;clear hT hv
 by_cases h0:v=0
 ·subst h0;have hn1:1<=n:=by have:=(aBk Hv.out).1;have:=HT.out.len;omega
  obtain⟨r,hr⟩:∃r,rootW t=r:=⟨_,rfl⟩;have HR:=kH (fun X (hX:Below W.heap.size W X)=>aP0 t n ct At X (HT.out.below aAh hX) hn1);rw[hr]at HR hce;clear hn1 hr
  by_cases h1:r=1
  ·subst h1;have hce:aAb t=0:=by rw[hce];simp
   rw[hce];clear hce
   go_enter func13,ntmps13
   go_wp2_with fail
   refine HV.out.mono ?_;rintro e w1 ⟨rfl,hb1⟩;have HRk:=kH (HR.out w1 hb1);have Hb1:=kH hb1;clear hb1 HV HR
   go_wp2_with fail
   refine HRk.out.mono ?_;rintro e w2 ⟨rfl,hb2⟩;have Hb2:=kH (Hb1.out.trans (hb2.mono Hb1.out.size));clear hb2 HRk;go_wp2;go_ret;exact⟨rfl,Hb2.out⟩
  ·have hce:aAb t=6:=by rw[hce];simp[h1]
   have hq:(r == 1)=false:=by simpa using h1
   have hq2:(r != 1)=true:=by simpa using h1
   rw[hce];clear hce h1
   go_enter func13,ntmps13
   go_wp2_with fail
   refine HV.out.mono ?_;rintro e w1 ⟨rfl,hb1⟩;have HRk:=kH (HR.out w1 hb1);have Hb1:=kH hb1;clear hb1 HV HR
   go_wp2_with fail
   refine HRk.out.mono ?_;rintro e w2 ⟨rfl,hb2⟩;have Hb2:=kH (Hb1.out.trans (hb2.mono Hb1.out.size));clear hb2 HRk;go_wp2;go_ret;exact⟨rfl,Hb2.out⟩
 ·have hq:(v == 0)=false:=by simpa using h0
  have hq2:(v != 0)=true:=by simpa using h0
  have hce:aAb t=v:=by rw[hce,if_pos h0]
  rw[hce];clear hce h0
  go_enter func13,ntmps13
  go_wp2_with fail
  refine HV.out.mono ?_;rintro e w1 ⟨rfl,hb1⟩;have Hb1:=kH hb1;clear hb1 HV;go_wp2;go_ret;exact⟨rfl,Hb1.out⟩
theorem aS1{t:List T.Nd}{env:List Int}(hc:aAb t=0)(hi:∀y∈t,0<=y.imm)(he:T.EnvOk t env):C.rv t env=0\/C.rv t env=1:=by
 obtain⟨hv,h1⟩:=aBa hc;have h2:=C.aVj hv hi he;unfold C.aBw at h1;have h3:(t.getD (t.length-1) default).w=1:=by omega
 rw[h3]at h2;have h4:B.pw 1=2:=by decide
 omega
end
end Go.Proofs.YtchdbhggbdcapaaGreat
