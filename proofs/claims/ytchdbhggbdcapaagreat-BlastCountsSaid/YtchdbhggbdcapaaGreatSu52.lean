/- Part. -/
import Derived.Test.YtchdbhggbdcapaaGreatSuLX
import Derived.Test.YtchdbhggbdcapaaGreatSu51
import Derived.Test.YtchdbhggbdcapaaGreatSu32
set_option linter.unusedVariables false
set_option linter.unusedSimpArgs false
set_option maxRecDepth 100000
set_option maxHeartbeats 16000000
namespace Go.Proofs.YtchdbhggbdcapaaGreat
open _root_.Go.Proofs.Tryz
section
open Go.RowKit Go.MapKept Go.Maps Go.WideMaps
theorem aP6(t:List T.Nd)(n ct:Nat)(At:Option Addr)(W:World)(hT:StAt 5 NdR W At n t):
 Calls prog 18 #[.slice At n ct] W fun e w'=>e= .returned (.tuple #[.int .i64 (aBi t).1, .int .i64 (aBi t).2])/\Below W.heap.size W w':=by
 have HC:=kH (aH4 t n ct At W hT);have HE:=kH (fun X (hX:Below W.heap.size W X)=>aDm t n ct At X (hT.below aAh hX));have Hi:=kH (aBq hT);have HT:=kH hT;obtain⟨ce,hce⟩:∃c,aAb t=c:=⟨_,rfl⟩;rw[hce]at HC;have Hce:=kH hce;clear hT hce
 by_cases h0:ce=0
 ·subst h0;obtain⟨hv,_⟩:=aBa Hce.out;have hee:envsE t=if 16<C.total (T.aAa t)then(0,3)else(((2 ^ C.total (T.aAa t):Nat):Int),0):=by unfold envsE;rw[if_neg (by simp[hv])]
  have hco:aBi t=if 16<C.total (T.aAa t)then(0,3)else((C.cntTo t (C.nEnv t):Int),0):=by unfold aBi;rw[if_neg (by simp[Hce.out])]
  rw[hco];rw[hee]at HE
  by_cases h16:16<C.total (T.aAa t)
  ·rw[if_pos h16];rw[if_pos h16]at HE;clear hco hee h16 hv
   go_enter func18,ntmps18
   go_wp2_with fail
   refine HC.out.mono ?_;rintro e w1 ⟨rfl,hb1⟩;have HBk:=kH (HE.out w1 hb1);have Hb1:=kH hb1;clear hb1 HC HE
   go_wp2_with fail
   refine HBk.out.mono ?_;rintro e w2 ⟨rfl,hb2⟩;have Hb2:=kH (Hb1.out.trans (hb2.mono Hb1.out.size));clear hb2 HBk;go_wp2;go_ret2;exact⟨rfl,Hb2.out⟩
  ·rw[if_neg h16];rw[if_neg h16]at HE;have htm:=(C.tm_of hv Hi.out).1;have hwl:=T.aA9 t;have HW:=kH (fun X (hX:Below W.heap.size W X)=>aDs t n ct At X (HT.out.below aAh hX));have hpw:2 ^ C.total (T.aAa t)<=65536:=zBK (zAJ (by decide) (show C.total (T.aAa t)<=16 by omega)) (by decide);obtain⟨p,hp⟩:∃p:Nat,2 ^ C.total (T.aAa t)=p:=⟨_,rfl⟩;rw[hp]at hpw HE;have hln:t.length=n:=HT.out.len;have Hp:=kH (And.intro htm (And.intro hwl (And.intro h16 (And.intro hp (And.intro hv hln)))));clear hco hee h16 htm hwl hp hv hln
   go_enter func18,ntmps18
   go_wp2_with fail
   refine HC.out.mono ?_;rintro e w1 ⟨rfl,hb1⟩;have HBk:=kH (HE.out w1 hb1);have Hb1:=kH hb1;clear hb1 HC HE
   go_wp2_with fail
   refine HBk.out.mono ?_;rintro e w2 ⟨rfl,hb2⟩;have HWk:=kH (HW.out w2 (Hb1.out.trans (hb2.mono Hb1.out.size)));have Hb2:=kH (Hb1.out.trans (hb2.mono Hb1.out.size));clear hb2 HBk HW
   go_wp2_with fail
   refine HWk.out.mono ?_;rintro e w3 ⟨hb,⟨hno,_⟩ |⟨_,g,rfl,hg,hrow⟩⟩
   ·exact absurd Hp.out.2.2.2.2.1 hno
   ·have H3:=kH (And.intro (Hb2.out.trans (hb.mono Hb2.out.size)) (And.intro hrow (zBK Hb2.out.size hg)));clear hb hg hrow HWk;have hmk:=fun(W':World)=>aBd (P:=prog) 42 45 (.int .u32 0) 4 underlying42 aC1 rfl .i64 .i64 4 4 (by omega) (by omega) (by omega) W'
    go_upto_region 10 with(fail)
    go_loopw [36,9] (fun s36 s9 wr=>∃k:Nat,k<=p/\s36= .int .i64 (k:Int)/\s9= .int .i64 ((C.cntTo t k:Nat):Int)/\Hid (Below w3.heap.size w3 wr)) (fun s _ _=>p- (intOf s).toNat)
    case atStart=>exact⟨0,zBL _,rfl,rfl,kH (Below.refl _ _)⟩
    case round=>
     obtain⟨k,hk,rfl,rfl,HL⟩:=hrel
     by_cases hlt:k<p
     ·have hkp:(k:Int) <(p:Int):=by omega
      go_upto_region 13 with(fail)
      obtain⟨ge,hge⟩:∃g,wr.heap.size=g:=⟨_,rfl⟩;obtain⟨w4,hw4⟩:∃w4,w4=wr.alloc (Obj.cells (Array.replicate 4 (Value.int IntKind.u32 0)) 45):=⟨_,rfl⟩;rw[<-hw4,hge];have hb4:Below w3.heap.size w3 w4:=by rw[hw4];exact HL.out.alloc HL.out.size _
      have hr4:w4.heap[ge]? =some (.cells ((ekN t k 0).map (Value.int .u32)).toArray 45 (0,0)):=by rw[hw4,<-hge,heap_alloc_new,aMu];rfl
      have H4:=kH (And.intro hb4 (And.intro hr4 (And.intro (show w3.heap.size<=ge by rw[<-hge];exact HL.out.size) (show C.total ((T.aAa t).take 0)=0 by simp[C.total]))));clear hw4 hge hb4 hr4
      go_upto_region 15 with(fail)
      go_loopw [43,12] (fun s43 s12 wr=>∃v:Nat,v<=4/\s43= .int .i64 (v:Int)/\s12= .int .i64 ((k / 2 ^ C.total ((T.aAa t).take v):Nat):Int)/\Hid (Below w3.heap.size w3 wr/\wr.heap[ge]? =some (.cells ((ekN t k v).map (Value.int .u32)).toArray 45 (0,0)))) (fun s _ _=>4- (intOf s).toNat)
      case atStart=>exact⟨0,by omega,rfl,by rw[H4.out.2.2.2,Nat.pow_zero,Nat.div_one],kH ⟨H4.out.1,H4.out.2.1⟩⟩
      case round=>
       obtain⟨v,hv4,rfl,rfl,HI⟩:=hrel
       by_cases hlt4:v<4
       ·obtain⟨z,hz⟩:∃z,(T.aAa t)[v]? =some z:=⟨_,zAB (by have:=Hp.out.2.1;omega)⟩;obtain⟨z0,z1⟩:=C.aCx Hp.out.1 hz;have hs:=aEp hz;have ht1:=C.aCp (T.aAa t) v (by have:=Hp.out.2.1;omega);have hea:=C.aF4 (T.aAa t) k v (by have:=Hp.out.2.1;omega);have hgd:(T.aAa t).getD v 0=z:=by rw[List.getD,hz];rfl
        rw[hgd]at ht1 hea;obtain⟨K,hK⟩:∃K,C.total ((T.aAa t).take v)=K:=⟨_,rfl⟩;obtain⟨m,rfl⟩:∃m:Nat,z=m:=⟨z.toNat,by omega⟩;rw[hK,zBA]at hs ht1 hea;rw[hK];obtain⟨q,hq⟩:∃q,k / 2 ^ K=q:=⟨_,rfl⟩;rw[hq]at hea⊢;have hqk:q<=k:=by rw[<-hq];exact Nat.div_le_self _ _
        have hm16:m<=16:=by have:=Hp.out.2.2.1;omega
        have hc:=(HI.out.1.cell (p:=⟨g,v,none⟩) (gA H3.out.2.1).1).trans (cell_of_row w3 g v _ _ (0,0) H3.out.2.1);rw[zAV,zAW,hz]at hc;have hc:wr.cell? ⟨g,v,none⟩=some (.int .i64 (m:Int)):=hc;have hv3:(v:Int) < 4:=by omega
        have hfz:wr.frozen? ⟨ge,v,none⟩=false:=aCm HI.out.2 _;have hcv:wr.cell? ⟨ge,v,none⟩=some (.int .u32 0):=by rw[cell_of_row _ _ _ _ _ (0,0) HI.out.2,zAV,zAW,aHa _ _ _ hlt4,if_neg (by omega)];rfl
        have Hs:=kH (And.intro hs (And.intro hea hq));clear hs ht1 hK hz hea hgd hq;have hmask:=aZ3 (q:=q) (m:=m) (by omega) hm16;have Hmask:=kH hmask;clear hmask;go_wp2;rw[Hmask.out];go_roundw
        case rel=>
         refine⟨v+1,by omega,by go_num,?_,kH ⟨HI.out.1.setCell (p:=⟨ge,v,none⟩) H4.out.2.2.1 _,?_⟩⟩
         ·rw[Hs.out.1,Nat.pow_add,<-Nat.div_div_eq_div_mul,Hs.out.2.2]
          congr 1
         ·rw[heap_setCell_same wr ge v _ _ _ HI.out.2,<-aO1 t k hlt4,Hs.out.2.1,List.map_set];simp
        case measure=>simp[intOf];omega
       ·obtain rfl:v=4:=by omega
        have hrow:=HI.out.2;rw[aMv]at hrow;have hel:(C.envK (T.aAa t) k).length=4:=by rw[C.aE6];exact Hp.out.2.1
        have hsl:=aGw hrow (by rw[hel];omega);rw[hel]at hsl;have hbw:Below W.heap.size W wr:=H3.out.1.trans (HI.out.1.mono (zBK H3.out.1.size (zBJ _)));have hev:=bC3 t (C.envK (T.aAa t) k) n ct 4 At (some ⟨ge,0,none⟩) wr (HT.out.below aAh hbw) hsl Hp.out.2.2.2.2.1 (C.aDt Hp.out.1 k);have hrv:(T.vals t (C.envK (T.aAa t) k)).getD (n-1) 0=C.rv t (C.envK (T.aAa t) k):=by unfold C.rv;rw[Hp.out.2.2.2.2.2]
        rw[hrv]at hev;obtain⟨rvv,hrvv⟩:∃r,C.rv t (C.envK (T.aAa t) k)=r:=⟨_,rfl⟩;rw[hrvv]at hev;have Hev:=kH hev;have Hr:=kH (And.intro hrvv HI.out.1);have hcn:=C.aHk t k;obtain⟨cn,hcn'⟩:∃c,C.cntTo t k=c:=⟨_,rfl⟩;rw[hcn']at hcn⊢;have Hcn:=kH hcn';have hwk:IntKind.i64.wrap ((cn:Int)+1)=((cn+1:Nat):Int):=by rw[IntWalk.i64_in _ (by omega)];omega
        clear hrow hel hsl hbw hev hrv hrvv hcn' HI
        by_cases h1:rvv=1
        ·subst h1
         go_wp2_with fail
         refine Hev.out.mono ?_;rintro e w5 ⟨rfl,hb5⟩;have Hb5:=kH (Hr.out.2.trans (hb5.mono Hr.out.2.size));clear hb5 Hev;go_wp2;go_roundw
         case rel=>exact⟨k+1,by omega,by go_num,by rw[C.cntTo,if_pos Hr.out.1,Hcn.out,Int.natCast_add];rfl,Hb5⟩
         case measure=>simp[intOf];omega
        ·have hq1:(rvv == 1)=false:=by simpa using h1
         have hne:=kH h1
         go_wp2_with fail
         refine Hev.out.mono ?_;rintro e w5 ⟨rfl,hb5⟩;have Hb5:=kH (Hr.out.2.trans (hb5.mono Hr.out.2.size));clear hb5 Hev h1;go_wp2;go_roundw
         case rel=>exact⟨k+1,by omega,by go_num,by rw[C.cntTo,if_neg (by rw[Hr.out.1];exact hne.out),Hcn.out,zBI],Hb5⟩
         case measure=>simp[intOf];omega
     ·obtain rfl:k=p:=by omega
      have hcn:C.cntTo t k=C.cntTo t (C.nEnv t):=by unfold C.nEnv;rw[Hp.out.2.2.2.1]
      rw[hcn];clear hcn hmk;go_wp2;go_ret2;exact⟨rfl,H3.out.1.trans (HL.out.mono H3.out.1.size)⟩
 ·have hq:(ce == 0)=false:=by simpa using h0
  have hq2:(ce != 0)=true:=by simpa using h0
  have he:aBi t=(0,ce):=by unfold aBi;rw[Hce.out,if_pos h0]
  rw[he];clear h0 he
  go_enter func18,ntmps18
  go_wp2_with fail
  refine HC.out.mono ?_;rintro e w1 ⟨rfl,hb1⟩;have Hb1:=kH hb1;clear hb1 HC HE;go_wp2;go_ret2;exact⟨rfl,Hb1.out⟩
end
section
open Go.RowKit
theorem aMx(W:World):Calls prog 11 #[] W fun e W'=>e= .returned (.bool true)/\Below W.heap.size W W':=aS0 (fun A X h=>aP6 lt2 3 3 A X h) W
theorem aOb(t:List T.Nd)(n ct:Nat)(At:Option Addr)(W:World)(hT:StAt 5 NdR W At n t):
 Calls prog 4 #[.slice At n ct] W fun e W'=>e= .returned (.bool true)/\Below W.heap.size W W':=by
 have HT:=kH hT;have HL:=kH (aFj t n ct At W hT);obtain⟨e1,he1⟩:∃x,(envsE t).1=x:=⟨_,rfl⟩;obtain⟨e2,he2⟩:∃x,(envsE t).2=x:=⟨_,rfl⟩;obtain⟨c1,hc1⟩:∃x,(aBi t).1=x:=⟨_,rfl⟩;obtain⟨c2,hc2⟩:∃x,(aBi t).2=x:=⟨_,rfl⟩;have HE:=kH (fun X (hX:Below W.heap.size W X)=>aDm t n ct At X (hT.below aAh hX));have HRE:=kH (fun X (hX:Below W.heap.size W X)=>aEq t n ct At X (hT.below aAh hX));have HC:=kH (fun X (hX:Below W.heap.size W X)=>aP6 t n ct At X (hT.below aAh hX));have HRC:=kH (fun X (hX:Below W.heap.size W X)=>aJe t n ct At X (hT.below aAh hX));rw[he1,he2]at HE HRE;rw[hc1,hc2]at HC HRC;clear hT he1 he2 hc1 hc2
 go_enter func4,ntmps4
 go_wp2_with fail
 refine HL.out.mono ?_;rintro e w1 ⟨hb1,rfl |⟨rfl,_⟩⟩;rotate_left
 ·have Hb1:=kH hb1;have HEk:=kH (HE.out w1 hb1);clear hb1 HL HE
  go_wp2_with fail
  refine HEk.out.mono ?_;rintro e w2 ⟨rfl,hb2⟩;have hb2':=Hb1.out.trans (hb2.mono Hb1.out.size);have HREk:=kH (HRE.out w2 hb2');have Hb2:=kH hb2';clear hb2 hb2' HEk HRE
  go_wp2_with fail
  refine HREk.out.mono ?_;rintro e w3 ⟨rfl,hb3⟩;have hb3':=Hb2.out.trans (hb3.mono Hb2.out.size);have Hb3:=kH hb3';have HCk:=kH (HC.out w3 hb3');have HK:=kH (aMx w3);clear hb3 hb3' HREk HC
  by_cases h4:4096<e1
  ·go_wp2_with fail
   refine HK.out.mono ?_;rintro e w4 ⟨rfl,hb4⟩;have Hb4:=kH (Hb3.out.trans (hb4.mono Hb3.out.size));clear hb4 HK;go_wp2;go_ret;exact⟨rfl,Hb4.out⟩
  ·have q4:decide (4096<e1)=false:=by simpa using h4
   go_wp2_with fail
   refine HCk.out.mono ?_;rintro e w4 ⟨rfl,hb4⟩;have hb4':=Hb3.out.trans (hb4.mono Hb3.out.size);have Hb4:=kH hb4';have HRCk:=kH (HRC.out w4 hb4');clear hb4 hb4' HCk HRC HK
   go_wp2_with fail
   refine HRCk.out.mono ?_;rintro e w5 ⟨rfl,hb5⟩;have Hb5:=kH (Hb4.out.trans (hb5.mono Hb4.out.size));have HK:=kH (aMx w5);clear hb5 HRCk
   go_wp2_with fail
   refine HK.out.mono ?_;rintro e w6 ⟨rfl,hb6⟩;have Hb6:=kH (Hb5.out.trans (hb6.mono Hb5.out.size));clear hb6 HK;go_wp2;go_ret;exact⟨rfl,Hb6.out⟩
 ·have Hb1:=kH hb1;have HK:=kH (aMx w1);clear hb1 HL
  go_wp2_with fail
  refine HK.out.mono ?_;rintro e w2 ⟨rfl,hb2⟩;have Hb2:=kH (Hb1.out.trans (hb2.mono Hb1.out.size));clear hb2 HK;go_wp2;go_ret;exact⟨rfl,Hb2.out⟩
end
end Go.Proofs.YtchdbhggbdcapaaGreat
