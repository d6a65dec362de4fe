/- Part. -/
import Derived.Test.YtchdbhggbdcapaaGreatSuLX
import Derived.Test.YtchdbhggbdcapaaGreatSu34
import Derived.Test.YtchdbhggbdcapaaGreatSu38
import Derived.Test.YtchdbhggbdcapaaGreatSu40
set_option linter.unusedVariables false
set_option linter.unusedSimpArgs false
set_option maxRecDepth 100000
set_option maxHeartbeats 16000000
namespace Go.Proofs.YtchdbhggbdcapaaGreat
open _root_.Go.Proofs.Tryz
section
open Go.RowKit
theorem aN7(t:List T.Nd)(n ct:Nat)(At:Option Addr)(W:World)(hT:StAt 5 NdR W At n t):
 Calls prog 3 #[.slice At n ct] W fun e W'=>e= .returned (.bool true)/\Below W.heap.size W W':=by
 have HT:=kH hT;have Hi:=kH (aBq hT);have HL:=kH (aFj t n ct At W hT);have HRC:=kH (fun X (hX:Below W.heap.size W X)=>aEc t n ct At X (hT.below aAh hX));have HIV:=kH (fun X (hX:Below W.heap.size W X)=>aKw t n ct At X (hT.below aAh hX));obtain⟨iv,hiv⟩:∃x,(aCe t).1=x:=⟨_,rfl⟩;obtain⟨ie,hie⟩:∃x,(aCe t).2=x:=⟨_,rfl⟩;obtain⟨ce,hce⟩:∃x,aAb t=x:=⟨_,rfl⟩;have Hiv:=kH (And.intro hiv (And.intro hie hce));rw[hiv,hie]at HIV;rw[hce]at HRC;clear hT hiv hie hce
 go_enter func3,ntmps3
 go_wp2_with fail
 refine HL.out.mono ?_;rintro e w1 ⟨hb1,rfl |⟨rfl,_⟩⟩
 ·have Hb1:=kH hb1;have HK:=kH (aAt w1);clear hb1 HL
  go_wp2_with fail
  refine HK.out.mono ?_;rintro e w2 ⟨rfl,hb2⟩;have Hb2:=kH (Hb1.out.trans (hb2.mono Hb1.out.size));clear hb2 HK;go_wp2;go_ret;exact⟨rfl,Hb2.out⟩
 ·have Hb1:=kH hb1;have HP:=kH (aKv t n ct At w1 (HT.out.below aAh hb1));clear hb1 HL
  go_wp2_with fail
  refine HP.out.mono ?_;rintro e w2 ⟨hb2,⟨hc,rfl⟩ |⟨hc,hno,rfl⟩ |⟨hc,c,hbs,hB,⟨m,_,hm,rfl⟩ |⟨A2,c2,l,hf,hl,hk,hsl,rfl⟩ |⟨_,_,rfl⟩⟩⟩
  ·have hb2':=Hb1.out.trans (hb2.mono Hb1.out.size);have HRk:=kH (HRC.out w2 hb2');have Hb2:=kH hb2';rw[Hiv.out.2.2]at hc⊢;have Hc:=kH hc;have hq:(ce == 0)=false:=by simpa using hc
   have hq2:(ce != 0)=true:=by simpa using hc
   clear hb2 hb2' HP HRC HIV hc
   go_wp2_with fail
   refine HRk.out.mono ?_;rintro e w3 ⟨rfl,hb3⟩;have hb3':=Hb2.out.trans (hb3.mono Hb2.out.size);have HK:=kH (aGx t n ct At w3 (HT.out.below aAh hb3') none 0 0 [] (SlAt.nil_ none) (by simp[tot]));rw[show aB5 t []=ce from by unfold aB5;rw[if_pos (by rw[Hiv.out.2.2];exact Hc.out),Hiv.out.2.2]]at HK;have Hb3:=kH hb3';clear hb3 hb3' HRk
   go_wp2_with fail
   refine HK.out.mono ?_;rintro e w4 ⟨hb4,rfl⟩;have Hb4:=kH (Hb3.out.trans (hb4.mono Hb3.out.size));have HKn:=kH (aAt w4);clear hb4 HK
   go_wp2_with fail
   refine HKn.out.mono ?_;rintro e w5 ⟨rfl,hb5⟩;have Hb5:=kH (Hb4.out.trans (hb5.mono Hb4.out.size));clear hb5 HKn;go_wp2;go_ret;exact⟨rfl,Hb5.out⟩
  ·have hb2':=Hb1.out.trans (hb2.mono Hb1.out.size);have HRk:=kH (HRC.out w2 hb2');have Hb2:=kH hb2';obtain rfl:ce=0:=by rw[<-Hiv.out.2.2];exact hc
   clear hb2 hb2' HP HRC HIV hc hno
   go_wp2_with fail
   refine HRk.out.mono ?_;rintro e w3 ⟨rfl,hb3⟩;have hb3':=Hb2.out.trans (hb3.mono Hb2.out.size);have HKn:=kH (aAt w3);have Hb3:=kH hb3';clear hb3 hb3' HRk
   go_wp2_with fail
   refine HKn.out.mono ?_;rintro e w5 ⟨rfl,hb5⟩;have Hb5:=kH (Hb3.out.trans (hb5.mono Hb3.out.size));clear hb5 HKn;go_wp2;go_ret;exact⟨rfl,Hb5.out⟩
  ·have hb2':=Hb1.out.trans (hb2.mono Hb1.out.size);have HRk:=kH (HRC.out w2 hb2');have Hb2:=kH hb2';have hval:=aH6 hc Hi.out hbs hm;have hive:ie=0->iv=false:=fun h=>by
    have h3:=aGd (t:=t) (by rw[Hiv.out.2.1];exact h);have h4:=Hiv.out.1;rw[h3]at h4;rw[<-h4];exact zBP hval
   obtain rfl:ce=0:=by rw[<-Hiv.out.2.2];exact hc
   have Hive:=kH hive;clear hb2 hb2' HP HRC hc hbs hB hm hval hive
   go_wp2_with fail
   refine HRk.out.mono ?_;rintro e w3 ⟨rfl,hb3⟩;have hb3':=Hb2.out.trans (hb3.mono Hb2.out.size);have HIk:=kH (HIV.out w3 hb3');have Hb3:=kH hb3';clear hb3 hb3' HRk HIV
   go_wp2_with fail
   refine HIk.out.mono ?_;rintro e w4 ⟨rfl,hb4⟩;have Hb4:=kH (Hb3.out.trans (hb4.mono Hb3.out.size));have HKn:=kH (aAt w4);clear hb4 HIk
   by_cases h0:ie=0
   ·obtain rfl:=Hive.out h0;subst h0
    go_wp2_with fail
    refine HKn.out.mono ?_;rintro e w5 ⟨rfl,hb5⟩;have Hb5:=kH (Hb4.out.trans (hb5.mono Hb4.out.size));clear hb5 HKn;go_wp2;go_ret;exact⟨rfl,Hb5.out⟩
   ·have hq:(ie == 0)=false:=by simpa using h0
    have hq2:(ie != 0)=true:=by simpa using h0
    clear h0
    go_wp2_with fail
    refine HKn.out.mono ?_;rintro e w5 ⟨rfl,hb5⟩;have Hb5:=kH (Hb4.out.trans (hb5.mono Hb4.out.size));clear hb5 HKn;go_wp2;go_ret;exact⟨rfl,Hb5.out⟩
  ·have hb2':=Hb1.out.trans (hb2.mono Hb1.out.size);have HRk:=kH (HRC.out w2 hb2');have Hb2:=kH hb2';have hval:=aH7 hc Hi.out hbs hf (fun k hk'=>(hk k hk').1);have hive:ie=0->iv=true:=fun h=>by
    have h3:=aGd (t:=t) (by rw[Hiv.out.2.1];exact h);have h4:=Hiv.out.1;rw[h3]at h4;rw[<-h4];exact zBO hval
   have hck:=aL1 hc Hi.out hbs hB hf hl (fun k hk'=>(hk k hk').1);have htl:tot l<=20000000:=by
    have h1:=aJd (l:=l) (n:=4000) (fun k hk'=>by have:=(hk k hk').2;have:=hB.n;omega);omega
   obtain rfl:ce=0:=by rw[<-Hiv.out.2.2];exact hc
   have Hive:=kH hive;have Hp:=kH (And.intro hsl (And.intro hck htl));obtain⟨ll,hll⟩:∃m,l.length=m:=⟨_,rfl⟩;rw[hll]at Hp⊢;clear hb2 hb2' HP HRC hc hbs hB hf hl hk hval hive hck htl hsl hll
   go_wp2_with fail
   refine HRk.out.mono ?_;rintro e w3 ⟨rfl,hb3⟩;have hb3':=Hb2.out.trans (hb3.mono Hb2.out.size);have HK:=kH (aGx t n ct At w3 (HT.out.below aAh hb3') A2 ll c2 l (Hp.out.1.below aCd hb3) Hp.out.2.2);rw[Hp.out.2.1]at HK;have Hb3:=kH hb3';clear hb3 hb3' HRk
   go_wp2_with fail
   refine HK.out.mono ?_;rintro e w4 ⟨hb4,rfl⟩;have hb4':=Hb3.out.trans (hb4.mono Hb3.out.size);have HIk:=kH (HIV.out w4 hb4');have Hb4:=kH hb4';clear hb4 hb4' HK HIV
   go_wp2_with fail
   refine HIk.out.mono ?_;rintro e w5 ⟨rfl,hb5⟩;have Hb5:=kH (Hb4.out.trans (hb5.mono Hb4.out.size));have HKn:=kH (aAt w5);clear hb5 HIk
   by_cases h0:ie=0
   ·obtain rfl:=Hive.out h0;subst h0
    go_wp2_with fail
    refine HKn.out.mono ?_;rintro e w6 ⟨rfl,hb6⟩;have Hb6:=kH (Hb5.out.trans (hb6.mono Hb5.out.size));clear hb6 HKn;go_wp2;go_ret;exact⟨rfl,Hb6.out⟩
   ·have hq:(ie == 0)=false:=by simpa using h0
    have hq2:(ie != 0)=true:=by simpa using h0
    clear h0
    go_wp2_with fail
    refine HKn.out.mono ?_;rintro e w6 ⟨rfl,hb6⟩;have Hb6:=kH (Hb5.out.trans (hb6.mono Hb5.out.size));clear hb6 HKn;go_wp2;go_ret;exact⟨rfl,Hb6.out⟩
  ·have hb2':=Hb1.out.trans (hb2.mono Hb1.out.size);have HRk:=kH (HRC.out w2 hb2');have Hb2:=kH hb2';obtain rfl:ce=0:=by rw[<-Hiv.out.2.2];exact hc
   clear hb2 hb2' HP HRC HIV hc hbs hB
   go_wp2_with fail
   refine HRk.out.mono ?_;rintro e w3 ⟨rfl,hb3⟩;have hb3':=Hb2.out.trans (hb3.mono Hb2.out.size);have HKn:=kH (aAt w3);have Hb3:=kH hb3';clear hb3 hb3' HRk
   go_wp2_with fail
   refine HKn.out.mono ?_;rintro e w5 ⟨rfl,hb5⟩;have Hb5:=kH (Hb3.out.trans (hb5.mono Hb3.out.size));clear hb5 HKn;go_wp2;go_ret;exact⟨rfl,Hb5.out⟩
end
end Go.Proofs.YtchdbhggbdcapaaGreat
