/- Part. -/
import Derived.Test.YtchdbhggbdcapaaGreatSuLX
import Derived.Test.YtchdbhggbdcapaaGreatSu45
import Derived.Test.YtchdbhggbdcapaaGreatSu32
import Derived.Test.YtchdbhggbdcapaaGreatSu33
import Derived.Test.YtchdbhggbdcapaaGreatSu40
set_option linter.unusedVariables false
set_option linter.unusedSimpArgs false
set_option maxRecDepth 100000
set_option maxHeartbeats 16000000
section
namespace Go.Proofs.YtchdbhggbdcapaaGreat.C
open T (Nd)
section
variable {t : List Nd} {c : Circ}
theorem aXv(t:List Nd)(e:E){i:Nat}(hz:(T.aAa t)[i]? =some 0):(envOf t e)[i]? =some 0:=by
 have hi:=(zAA.1 hz).1;have h:=aR5 t e hi;rw[show(T.aAa t).getD i 0=0 from by rw[List.getD,hz];rfl]at h;rw[zAB (by rw[aFd];exact hi)];rw[List.getD,zAB (by rw[aFd];exact hi)]at h;refine congrArg some ?_;refine Eq.trans h ?_;rfl
end
end Go.Proofs.YtchdbhggbdcapaaGreat.C
end
namespace Go.Proofs.YtchdbhggbdcapaaGreat
open _root_.Go.Proofs.Tryz
section
open Go.RowKit
theorem aO2(t:List T.Nd)(n ct:Nat)(At:Option Addr)(W:World)(hT:StAt 5 NdR W At n t):
 Calls prog 7 #[.slice At n ct] W fun e W'=>e= .returned (.bool true)/\Below W.heap.size W W':=by
 have HT:=kH hT;have Hi:=kH (aBq hT);have HL:=kH (aFj t n ct At W hT);have HRC:=kH (fun X (hX:Below W.heap.size W X)=>aEc t n ct At X (hT.below aAh hX));have HCT:=kH (fun X (hX:Below W.heap.size W X)=>aJe t n ct At X (hT.below aAh hX));obtain⟨cn,hcn⟩:∃x,(aBi t).1=x:=⟨_,rfl⟩;obtain⟨cz,hcz⟩:∃x,(aBi t).2=x:=⟨_,rfl⟩;obtain⟨ce,hce⟩:∃x,aAb t=x:=⟨_,rfl⟩;have Hiv:=kH (And.intro hcn (And.intro hcz hce));rw[hcn,hcz]at HCT;rw[hce]at HRC;clear hT hcn hcz hce
 go_enter func7,ntmps7
 go_wp2_with fail
 refine HL.out.mono ?_;rintro e w1 ⟨hb1,rfl |⟨rfl,_⟩⟩
 ·have Hb1:=kH hb1;clear hb1 HL;have HKn:=kH (aAt w1)
  go_wp2_with fail
  refine HKn.out.mono ?_;rintro e wk ⟨rfl,hbk⟩;have Hbk:=kH (Hb1.out.trans (hbk.mono Hb1.out.size));clear hbk HKn;go_wp2;go_ret;exact⟨rfl,Hbk.out⟩
 ·have Hb1:=kH hb1;have HP:=kH (aS6 t n ct At w1 (HT.out.below aAh hb1));clear hb1 HL
  go_wp2_with fail
  refine HP.out.mono ?_;rintro e w2 ⟨hb2,⟨hc,rfl⟩ |⟨hc,hno,rfl⟩ |⟨hc,c,hbs,hB,⟨A2,c2,m,_,hm,rfl,hsl⟩ |⟨l,hf,hk,rfl⟩ |⟨_,_,rfl⟩⟩⟩
  ·have hb2':=Hb1.out.trans (hb2.mono Hb1.out.size);have HRk:=kH (HRC.out w2 hb2');have Hb2:=kH hb2';rw[Hiv.out.2.2]at hc⊢;have hq:(ce == 0)=false:=by simpa using hc
   have hq2:(ce != 0)=true:=by simpa using hc
   clear hb2 hb2' HP HRC HCT hc
   go_wp2_with fail
   refine HRk.out.mono ?_;rintro e w3 ⟨rfl,hb3⟩;have hb3':=Hb2.out.trans (hb3.mono Hb2.out.size);have Hb3:=kH hb3';clear hb3 hb3' HRk;have HKn:=kH (aAt w3)
   go_wp2_with fail
   refine HKn.out.mono ?_;rintro e wk ⟨rfl,hbk⟩;have Hbk:=kH (Hb3.out.trans (hbk.mono Hb3.out.size));clear hbk HKn;go_wp2;go_ret;exact⟨rfl,Hbk.out⟩
  ·have hb2':=Hb1.out.trans (hb2.mono Hb1.out.size);have HRk:=kH (HRC.out w2 hb2');have Hb2:=kH hb2';obtain rfl:ce=0:=by rw[<-Hiv.out.2.2];exact hc
   clear hb2 hb2' HP HRC HCT hc hno
   go_wp2_with fail
   refine HRk.out.mono ?_;rintro e w3 ⟨rfl,hb3⟩;have hb3':=Hb2.out.trans (hb3.mono Hb2.out.size);have Hb3:=kH hb3';clear hb3 hb3' HRk;have HKn:=kH (aAt w3)
   go_wp2_with fail
   refine HKn.out.mono ?_;rintro e wk ⟨rfl,hbk⟩;have Hbk:=kH (Hb3.out.trans (hbk.mono Hb3.out.size));clear hbk HKn;go_wp2;go_ret;exact⟨rfl,Hbk.out⟩
  ·have hb2':=Hb1.out.trans (hb2.mono Hb1.out.size);have HRk:=kH (HRC.out w2 hb2');have Hb2:=kH hb2';obtain⟨hrv,hok⟩:=aN8 hc Hi.out hbs hm;obtain rfl:ce=0:=by rw[<-Hiv.out.2.2];exact hc
   have Hv:=kH (And.intro (aBa hc).1 (And.intro hok (And.intro hrv (And.intro hsl (fun i hz=>C.aXv t (C.modE m) (i:=i) hz)))));obtain⟨env,henv⟩:∃x,C.envOf t (C.modE m)=x:=⟨_,rfl⟩;rw[henv]at Hv;clear hb2 hb2' HP HRC HCT hc hbs hB hm hrv hok hsl henv
   go_wp2_with fail
   refine HRk.out.mono ?_;rintro e w3 ⟨rfl,hb3⟩;have hb3':=Hb2.out.trans (hb3.mono Hb2.out.size);have Hb3:=kH hb3';have HE:=kH (aJc t env n ct c2 At A2 w3 (HT.out.below aAh hb3') (Hv.out.2.2.2.1.below (aAd _) hb3) Hv.out.1 Hv.out.2.1);rw[Hv.out.2.2.1]at HE;have Hsl3:=kH (Hv.out.2.2.2.1.below (aAd _) hb3);clear hb3 hb3' HRk
   go_wp2_with fail
   refine HE.out.mono ?_;rintro e w4 ⟨rfl,hb4⟩;have hb4':=Hb3.out.trans (hb4.mono Hb3.out.size);have Hb4:=kH hb4';have HW:=kH (aGe t n ct At w4 (HT.out.below aAh hb4'));have Hsl4:=kH (Hsl3.out.below (aAd _) hb4);clear Hsl3;clear hb4 hb4' HE
   go_wp2_with fail
   refine HW.out.mono ?_;rintro e w5 ⟨hb5,⟨hno,_⟩ |⟨_,g,rfl,hg,hrow⟩⟩
   ·exact absurd Hv.out.1 hno
   have hb5':=Hb4.out.trans (hb5.mono Hb4.out.size);have Hb5:=kH hb5';have Hr:=kH (And.intro hrow (Hsl4.out.below (aAd _) hb5));have hwl:=kH (T.aA9 t);clear hb5 hb5' HW Hsl4 hg hrow
   go_upto_region 13 with(fail)
   go_loopw [11] (fun s11 wr=>∃j:Nat,j<=4/\s11= .int .i64 (j:Int)/\wr=w5) (fun s _=>4- (intOf s).toNat)
   case atStart=>exact⟨0,zBL _,rfl,rfl⟩
   case round=>
    obtain⟨j,hj,rfl,rfl⟩:=hrel
    by_cases hlt:j<4
    ·have hj4:(j:Int) < 4:=by omega
     obtain⟨z,hz⟩:∃z,(T.aAa t)[j]? =some z:=⟨_,zAB (by rw[hwl.out];exact hlt)⟩;have hc:=cell_of_row wr g j _ _ (0,0) Hr.out.1;rw[zAV,zAW,hz]at hc;have hc:wr.cell? ⟨g,j,none⟩=some (.int .i64 z):=hc
     by_cases h0:z=0
     ·subst h0;obtain⟨y,be,offe,ue,hy,rfl,hbe,hce,hue⟩:=Hr.out.2.at_ hlt;obtain rfl:ue= .int .u32 y:=hue;have hy0:=Hv.out.2.2.2.2 j hz;rw[hy]at hy0;cases hy0;clear hz hbe hy;go_wp2;go_roundw
      case rel=>exact⟨j+1,by omega,by go_num,trivial⟩
      case measure=>simp[intOf];omega
     ·have hq:(z == 0)=false:=by simpa using h0
      clear hz h0;go_wp2;go_roundw
      case rel=>exact⟨j+1,by omega,by go_num,trivial⟩
      case measure=>simp[intOf];omega
    ·obtain rfl:j=4:=by omega
     have HKn:=kH (aAt wr)
     go_wp2_with fail
     refine HKn.out.mono ?_;rintro e wk ⟨rfl,hbk⟩;have Hbk:=kH (Hb5.out.trans (hbk.mono Hb5.out.size));clear hbk HKn;go_wp2;go_ret;exact⟨rfl,Hbk.out⟩
  ·have hb2':=Hb1.out.trans (hb2.mono Hb1.out.size);have HRk:=kH (HRC.out w2 hb2');have Hb2:=kH hb2';have h0:=aP3 hc Hi.out hbs hf hk;have hcz0:cz=0->cn=0:=fun h=>by
    have h3:=(aN5 (t:=t) (by rw[Hiv.out.2.1];exact h)).2.2.1;rw[Hiv.out.1,h0]at h3;exact h3
   obtain rfl:ce=0:=by rw[<-Hiv.out.2.2];exact hc
   have Hcz:=kH hcz0;clear hb2 hb2' HP HRC hc hbs hB hf hk h0 hcz0
   go_wp2_with fail
   refine HRk.out.mono ?_;rintro e w3 ⟨rfl,hb3⟩;have hb3':=Hb2.out.trans (hb3.mono Hb2.out.size);have Hb3:=kH hb3';have HC:=kH (HCT.out w3 hb3');clear HCT;clear hb3 hb3' HRk
   go_wp2_with fail
   refine HC.out.mono ?_;rintro e w4 ⟨rfl,hb4⟩;have hb4':=Hb3.out.trans (hb4.mono Hb3.out.size);have Hb4:=kH hb4';clear hb4 hb4' HC
   by_cases h0:cz=0
   ·obtain rfl:=Hcz.out h0;subst h0;have HKn:=kH (aAt w4)
    go_wp2_with fail
    refine HKn.out.mono ?_;rintro e wk ⟨rfl,hbk⟩;have Hbk:=kH (Hb4.out.trans (hbk.mono Hb4.out.size));clear hbk HKn;go_wp2;go_ret;exact⟨rfl,Hbk.out⟩
   ·have hq:(cz == 0)=false:=by simpa using h0
    have hq2:(cz != 0)=true:=by simpa using h0
    clear h0;have HKn:=kH (aAt w4)
    go_wp2_with fail
    refine HKn.out.mono ?_;rintro e wk ⟨rfl,hbk⟩;have Hbk:=kH (Hb4.out.trans (hbk.mono Hb4.out.size));clear hbk HKn;go_wp2;go_ret;exact⟨rfl,Hbk.out⟩
  ·have hb2':=Hb1.out.trans (hb2.mono Hb1.out.size);have HRk:=kH (HRC.out w2 hb2');have Hb2:=kH hb2';obtain rfl:ce=0:=by rw[<-Hiv.out.2.2];exact hc
   clear hb2 hb2' HP HRC HCT hc hbs hB
   go_wp2_with fail
   refine HRk.out.mono ?_;rintro e w3 ⟨rfl,hb3⟩;have hb3':=Hb2.out.trans (hb3.mono Hb2.out.size);have Hb3:=kH hb3';clear hb3 hb3' HRk;have HKn:=kH (aAt w3)
   go_wp2_with fail
   refine HKn.out.mono ?_;rintro e wk ⟨rfl,hbk⟩;have Hbk:=kH (Hb3.out.trans (hbk.mono Hb3.out.size));clear hbk HKn;go_wp2;go_ret;exact⟨rfl,Hbk.out⟩
end
end Go.Proofs.YtchdbhggbdcapaaGreat
