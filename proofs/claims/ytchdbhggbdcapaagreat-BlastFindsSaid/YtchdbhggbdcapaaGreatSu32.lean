/- Part. -/
import Derived.Test.YtchdbhggbdcapaaGreatSuLX
import Derived.Test.YtchdbhggbdcapaaGreatSu31
import Derived.Test.YtchdbhggbdcapaaGreatSu29
import Derived.Test.YtchdbhggbdcapaaGreatSu30
set_option linter.unusedVariables false
set_option linter.unusedSimpArgs false
set_option maxRecDepth 100000
set_option maxHeartbeats 16000000
namespace Go.Proofs.YtchdbhggbdcapaaGreat
open _root_.Go.Proofs.Tryz
section
open Go.RowKit
theorem aEq(t:List T.Nd)(n ct:Nat)(At:Option Addr)(W:World)(hT:StAt 5 NdR W At n t):
 Calls prog 17 #[.slice At n ct] W fun e w'=>e= .returned (.tuple #[.int .i64 (envsE t).1, .int .i64 (envsE t).2])/\Below W.heap.size W w':=by
 have HW:=kH (aGe t n ct At W hT);have Hi:=kH (aBq hT);obtain⟨ve,hve⟩:∃c,T.valid true t=c:=⟨_,rfl⟩;have Hve:=kH hve;clear hT hve
 by_cases h0:ve=0
 ·subst h0;have htm:=(C.tm_of Hve.out Hi.out).1;have hwl:=T.aA9 t;have hsm:=C.aCt htm;have he:envsE t=if 16<C.total (T.aAa t)then(0,3)else(((2 ^ C.total (T.aAa t):Nat):Int),0):=by unfold envsE;rw[if_neg (by simp[Hve.out])]
  have Hp:=kH (And.intro htm (And.intro hwl (And.intro hsm he)));clear htm hwl hsm he
  go_enter func17,ntmps17
  go_wp2_with fail
  refine HW.out.mono ?_;rintro e w1 ⟨hb,⟨hno,_⟩ |⟨_,g,rfl,hg,hrow⟩⟩
  ·exact absurd Hve.out hno
  ·have Hrow:=kH (And.intro hrow hb);clear hrow hb HW hg
   go_upto_region 6 with(fail)
   go_loopw [7,6] (fun s7 s6 wr=>∃v:Nat,v<=4/\s7= .int .i64 (v:Int)/\s6= .int .i64 ((C.total ((T.aAa t).take v):Nat):Int)/\wr=w1) (fun s _ _=>4- (intOf s).toNat)
   case atStart=>exact⟨0,by omega,rfl,by simp[C.total],rfl⟩
   case round=>
    obtain⟨v,hv4,rfl,rfl,rfl⟩:=hrel
    by_cases hlt:v<4
    ·obtain⟨z,hz⟩:∃z,(T.aAa t)[v]? =some z:=⟨_,zAB (by have:=Hp.out.2.1;omega)⟩;obtain⟨z0,z1⟩:=C.aCx Hp.out.1 hz;have hs:=aEp hz;have ht1:=C.aCp (T.aAa t) v (by have:=Hp.out.2.1;omega);obtain⟨K,hK⟩:∃K,C.total ((T.aAa t).take v)=K:=⟨_,rfl⟩;obtain⟨m,rfl⟩:∃m:Nat,z=m:=⟨z.toNat,by omega⟩;rw[hK,zBA]at hs;rw[hK];have hKm:K<=128:=by have:=Hp.out.2.2.1;omega
     have hc:=cell_of_row wr g v _ _ (0,0) Hrow.out.1;rw[zAV,zAW,hz]at hc;have hc:wr.cell? ⟨g,v,none⟩=some (.int .i64 (m:Int)):=hc;have hv3:(v:Int) < 4:=by omega
     have Hs:=kH hs;clear hs ht1 hK hz;go_wp2;go_roundw
     case rel=>exact⟨v+1,by omega,by go_num,by rw[Hs.out,Int.natCast_add],trivial⟩
     case measure=>simp[intOf];omega
    ·obtain rfl:v=4:=by omega
     have hfull:(T.aAa t).take 4=T.aAa t:=zAK (by have:=Hp.out.2.1;omega);rw[hfull];obtain⟨K,hK⟩:∃K,C.total (T.aAa t)=K:=⟨_,rfl⟩;have hsm:K<=128:=by rw[<-hK];exact Hp.out.2.2.1
     rw[hK];have HK:=kH (show envsE t=if 16<K then(0,3)else(((2 ^ K:Nat):Int),0)from by rw[Hp.out.2.2.2,hK]);clear hK hfull
     by_cases h16:16<K
     ·have hgt:(16:Int) <(K:Int):=by omega
      have Hh:=kH h16;go_wp2;go_ret2;exact⟨by rw[HK.out,if_pos Hh.out];rfl,Hrow.out.2⟩
     ·have hle:¬(16:Int) <(K:Int):=by omega
      have hdec:decide ((16:Int) <(K:Int))=false:=by simpa using hle
      obtain⟨p,hp⟩:∃p:Nat,2 ^ K=p:=⟨_,rfl⟩;have hp2:p<=65536:=by rw[<-hp];exact zBK (zAJ (by decide) (show K<=16 by omega)) (by decide)
      have Hh:=kH h16;go_wp2;have hw:wrap64 ((2:Int) ^ K)=((2 ^ K:Nat):Int):=by
       have h1:(2:Int) ^ K=((2 ^ K:Nat):Int):=by simp
       rw[h1,hp,IntWalk.wrap64_in _ (by omega)]
      rw[hw];go_ret2;exact⟨by rw[HK.out,if_neg Hh.out];rfl,Hrow.out.2⟩
 ·have hq:(ve == 0)=false:=by simpa using h0
  have hq2:(ve != 0)=true:=by simpa using h0
  have he:envsE t=(0,ve):=by unfold envsE;rw[Hve.out,if_pos h0]
  have Hne:=kH h0;rw[he];clear h0 he
  go_enter func17,ntmps17
  go_wp2_with fail
  refine HW.out.mono ?_;rintro e w1 ⟨hb,⟨hno,rfl⟩ |⟨hyes,_⟩⟩
  ·rw[Hve.out];have Hb1:=kH hb;clear hb HW hno;go_wp2;go_ret2;exact⟨rfl,Hb1.out⟩
  ·exact absurd (Hve.out.symm.trans hyes) Hne.out
theorem aJe(t:List T.Nd)(n ct:Nat)(At:Option Addr)(W:World)(hT:StAt 5 NdR W At n t):
 Calls prog 19 #[.slice At n ct] W fun e w'=>e= .returned (.tuple #[.int .i64 (aBi t).1, .int .i64 (aBi t).2])/\Below W.heap.size W w':=by
 have HC:=kH (aEc t n ct At W hT);have HE:=kH (fun X (hX:Below W.heap.size W X)=>aEq t n ct At X (hT.below aAh hX));have Hi:=kH (aBq hT);have HT:=kH hT;obtain⟨ce,hce⟩:∃c,aAb t=c:=⟨_,rfl⟩;rw[hce]at HC;have Hce:=kH hce;clear hT hce
 by_cases h0:ce=0
 ·subst h0;obtain⟨hv,_⟩:=aBa Hce.out;have hee:envsE t=if 16<C.total (T.aAa t)then(0,3)else(((2 ^ C.total (T.aAa t):Nat):Int),0):=by unfold envsE;rw[if_neg (by simp[hv])]
  have hco:aBi t=if 16<C.total (T.aAa t)then(0,3)else((C.cntTo t (C.nEnv t):Int),0):=by unfold aBi;rw[if_neg (by simp[Hce.out])]
  rw[hco];rw[hee]at HE
  by_cases h16:16<C.total (T.aAa t)
  ·rw[if_pos h16];rw[if_pos h16]at HE;clear hco hee h16 hv
   go_enter func19,ntmps19
   go_wp2_with fail
   refine HC.out.mono ?_;rintro e w1 ⟨rfl,hb1⟩;have HBk:=kH (HE.out w1 hb1);have Hb1:=kH hb1;clear hb1 HC HE
   go_wp2_with fail
   refine HBk.out.mono ?_;rintro e w2 ⟨rfl,hb2⟩;have Hb2:=kH (Hb1.out.trans (hb2.mono Hb1.out.size));clear hb2 HBk;go_wp2;go_ret2;exact⟨rfl,Hb2.out⟩
  ·rw[if_neg h16];rw[if_neg h16]at HE;have htm:=(C.tm_of hv Hi.out).1;have hwl:=T.aA9 t;have HW:=kH (fun X (hX:Below W.heap.size W X)=>aGe t n ct At X (HT.out.below aAh hX));have hpw:2 ^ C.total (T.aAa t)<=65536:=zBK (zAJ (by decide) (show C.total (T.aAa t)<=16 by omega)) (by decide);obtain⟨p,hp⟩:∃p:Nat,2 ^ C.total (T.aAa t)=p:=⟨_,rfl⟩;rw[hp]at hpw HE;have Hp:=kH (And.intro htm (And.intro hwl (And.intro hp hv)));clear hco hee h16 htm hwl hp hv
   go_enter func19,ntmps19
   go_wp2_with fail
   refine HC.out.mono ?_;rintro e w1 ⟨rfl,hb1⟩;have HBk:=kH (HE.out w1 hb1);have Hb1:=kH hb1;clear hb1 HC HE
   go_wp2_with fail
   refine HBk.out.mono ?_;rintro e w2 ⟨rfl,hb2⟩;have HWk:=kH (HW.out w2 (Hb1.out.trans (hb2.mono Hb1.out.size)));have Hb2:=kH (Hb1.out.trans (hb2.mono Hb1.out.size));clear hb2 HBk HW
   go_wp2_with fail
   refine HWk.out.mono ?_;rintro e w3 ⟨hb,⟨hno,_⟩ |⟨_,g,rfl,hg,hrow⟩⟩
   ·exact absurd Hp.out.2.2.2 hno
   ·have H3:=kH (And.intro (Hb2.out.trans (hb.mono Hb2.out.size)) hrow);clear hb hg hrow HWk
    go_upto_region 10 with(fail)
    go_loopw [9,8] (fun s9 s8 wr=>∃k:Nat,k<=p/\s9= .int .i64 (k:Int)/\s8= .int .i64 ((C.cntTo t k:Nat):Int)/\Hid (Below w3.heap.size w3 wr)) (fun s _ _=>p- (intOf s).toNat)
    case atStart=>exact⟨0,zBL _,rfl,rfl,kH (Below.refl _ _)⟩
    case round=>
     obtain⟨k,hk,rfl,rfl,HL⟩:=hrel
     by_cases hlt:k<p
     ·have hkp:(k:Int) <(p:Int):=by omega
      have HEn:=kH (aS2 t g k wr ((HL.out.block _ (gA H3.out.2).1).trans H3.out.2) Hp.out.1 (by omega))
      go_wp2_with fail
      refine HEn.out.mono ?_;rintro e w4 ⟨A4,c4,rfl,hsl,hb4⟩;have hb4':=HL.out.trans (hb4.mono HL.out.size);have hbw:Below W.heap.size W w4:=H3.out.1.trans (hb4'.mono H3.out.1.size);have hok:=C.aDt Hp.out.1 k;have HEv:=kH (aJc t (C.envK (T.aAa t) k) n ct c4 At A4 w4 (HT.out.below aAh hbw) hsl Hp.out.2.2.2 hok);have hbit:=aS1 Hce.out Hi.out hok;obtain⟨rvv,hrvv⟩:∃r,C.rv t (C.envK (T.aAa t) k)=r:=⟨_,rfl⟩;rw[hrvv]at HEv hbit;have Hr:=kH (And.intro hrvv hb4');have hcn:=C.aHk t k;obtain⟨cn,hcn'⟩:∃c,C.cntTo t k=c:=⟨_,rfl⟩;rw[hcn']at hcn⊢;have Hcn:=kH hcn';clear hsl hb4 hb4' hbw hok hrvv hcn' HEn
      go_wp2_with fail
      refine HEv.out.mono ?_;rintro e w5 ⟨rfl,hb5⟩;have Hb5:=kH (Hr.out.2.trans (hb5.mono Hr.out.2.size));clear hb5 HEv;rcases hbit with rfl | rfl
      ·go_wp2;go_roundw
       case rel=>exact⟨k+1,by omega,by go_num,by rw[C.cntTo,if_neg (by rw[Hr.out.1];decide),Hcn.out,zBI];try simp,Hb5⟩
       case measure=>simp[intOf];omega
      ·go_wp2;go_roundw
       case rel=>exact⟨k+1,by omega,by go_num,by rw[C.cntTo,if_pos Hr.out.1,Hcn.out,Int.natCast_add];rfl,Hb5⟩
       case measure=>simp[intOf];omega
     ·obtain rfl:k=p:=by omega
      have hcn:C.cntTo t k=C.cntTo t (C.nEnv t):=by unfold C.nEnv;rw[Hp.out.2.2.1]
      rw[hcn];clear hcn;go_wp2;go_ret2;exact⟨rfl,H3.out.1.trans (HL.out.mono H3.out.1.size)⟩
 ·have hq:(ce == 0)=false:=by simpa using h0
  have hq2:(ce != 0)=true:=by simpa using h0
  have he:aBi t=(0,ce):=by unfold aBi;rw[Hce.out,if_pos h0]
  rw[he];clear h0 he
  go_enter func19,ntmps19
  go_wp2_with fail
  refine HC.out.mono ?_;rintro e w1 ⟨rfl,hb1⟩;have Hb1:=kH hb1;clear hb1 HC HE;go_wp2;go_ret2;exact⟨rfl,Hb1.out⟩
end
end Go.Proofs.YtchdbhggbdcapaaGreat
