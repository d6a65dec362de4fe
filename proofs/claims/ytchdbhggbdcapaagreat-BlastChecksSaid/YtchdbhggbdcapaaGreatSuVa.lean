/- Part. -/
import Derived.Test.YtchdbhggbdcapaaGreatSu28
import Derived.Shelf.Slices.CompactI
import Derived.Shelf.Slices.In.SortNone
import Derived.Shelf.Sort.Plain
import Derived.Sort.OwnSortedInts
import Derived.Test.YtchdbhggbdcapaaGreatSuVb
set_option linter.unusedVariables false
set_option linter.unusedSimpArgs false
set_option maxRecDepth 100000
set_option maxHeartbeats 16000000
namespace Go.Proofs.YtchdbhggbdcapaaGreat
open _root_.Go.Proofs.Tryz
section
open Go.RowKit
theorem aEc(t:List T.Nd)(n ct:Nat)(At:Option Addr)(W:World)(hT:StAt 5 NdR W At n t):
 Calls prog 13 #[.slice At n ct] W fun e w'=>e= .returned (.int .i64 (aAb t))/\Below W.heap.size W w':=by
 have HV:=kH (aE0 t n ct At W hT);have HT:=kH hT;obtain⟨v,hv⟩:∃v,T.valid true t=v:=⟨_,rfl⟩;have hce:aAb t=if v≠0 then v else if rootW t≠1 then 6 else 0:=by unfold aAb;rw[hv]
 rw[hv]at HV;have Hv:=kH hv;clear hT hv
 by_cases h0:v=0
 ·subst h0;have hn1:1<=n:=by have:=(aBk Hv.out).1;have:=HT.out.len;omega
  obtain⟨r,hr⟩:∃r,rootW t=r:=⟨_,rfl⟩;have HR:=kH (fun X (hX:Below W.heap.size W X)=>aP0 t n ct At X (HT.out.below aAh hX) hn1);rw[hr]at HR hce;clear hn1 hr
  by_cases h1:r=1
  ·subst h1;have hce:aAb t=0:=by rw[hce];simp
   rw[hce];clear hce
   go_enter func13,ntmps13
   go_wp2_with fail
   refine HV.out.mono ?_;rintro e w1 ⟨rfl,hb1⟩;have HRk:=kH (HR.out w1 hb1);have Hb1:=kH hb1;clear hb1 HV HR
   go_wp2_with fail
   refine HRk.out.mono ?_;rintro e w2 ⟨rfl,hb2⟩;have Hb2:=kH (Hb1.out.trans (hb2.mono Hb1.out.size));clear hb2 HRk;go_wp2;go_ret;exact⟨rfl,Hb2.out⟩
  ·have hce:aAb t=6:=by rw[hce];simp[h1]
   have hq:(r == 1)=false:=by simpa using h1
   have hq2:(r != 1)=true:=by simpa using h1
   rw[hce];clear hce h1
   go_enter func13,ntmps13
   go_wp2_with fail
   refine HV.out.mono ?_;rintro e w1 ⟨rfl,hb1⟩;have HRk:=kH (HR.out w1 hb1);have Hb1:=kH hb1;clear hb1 HV HR
   go_wp2_with fail
   refine HRk.out.mono ?_;rintro e w2 ⟨rfl,hb2⟩;have Hb2:=kH (Hb1.out.trans (hb2.mono Hb1.out.size));clear hb2 HRk;go_wp2;go_ret;exact⟨rfl,Hb2.out⟩
 ·have hq:(v == 0)=false:=by simpa using h0
  have hq2:(v != 0)=true:=by simpa using h0
  have hce:aAb t=v:=by rw[hce,if_pos h0]
  rw[hce];clear hce h0
  go_enter func13,ntmps13
  go_wp2_with fail
  refine HV.out.mono ?_;rintro e w1 ⟨rfl,hb1⟩;have Hb1:=kH hb1;clear hb1 HV;go_wp2;go_ret;exact⟨rfl,Hb1.out⟩
theorem aS1{t:List T.Nd}{env:List Int}(hc:aAb t=0)(hi:∀y∈t,0<=y.imm)(he:T.EnvOk t env):C.rv t env=0\/C.rv t env=1:=by
 obtain⟨hv,h1⟩:=aBa hc;have h2:=C.aVj hv hi he;unfold C.aBw at h1;have h3:(t.getD (t.length-1) default).w=1:=by omega
 rw[h3]at h2;have h4:B.pw 1=2:=by decide
 omega
end
section
open Go.RowKit
theorem aS2(t:List T.Nd)(g k:Nat)(W:World)(hrow:W.heap[g]? =some (.cells ((T.aAa t).map (Value.int .i64)).toArray 3 (0,0)))(hm:C.Tm t)(hk:k<=4398046511104):
 Calls prog 25 #[.slice (some ⟨g,0,none⟩) 4 4, .int .i64 (k:Int)] W fun e w'=>∃A c,e= .returned (.slice A 4 c)/\SlAt (IntR .u32) w' A 4 (C.envK (T.aAa t) k)/\Below W.heap.size W w':=by
 have hwl:=T.aA9 t;have Hp:=kH (And.intro hm (And.intro hwl hrow));clear hrow hm hwl;have hmk:=fun(W':World)=>aBd (P:=prog) 42 45 (.int .u32 0) 4 underlying42 aC1 rfl .i64 .i64 4 4 (by omega) (by omega) (by omega) W'
 go_enter func25,ntmps25
 go_upto_region 2 with(fail)
 clear hmk;obtain⟨ge,hge⟩:∃g,W.heap.size=g:=⟨_,rfl⟩;obtain⟨w4,hw4⟩:∃w4,w4=W.alloc (Obj.cells (Array.replicate 4 (Value.int IntKind.u32 0)) 45):=⟨_,rfl⟩;rw[<-hw4,hge];have hb4:Below W.heap.size W w4:=by rw[hw4];exact al0
 have hr4:w4.heap[ge]? =some (.cells ((ekN t k 0).map (Value.int .u32)).toArray 45 (0,0)):=by rw[hw4,<-hge,heap_alloc_new,aMu];rfl
 have H4:=kH (And.intro hb4 (And.intro hr4 (And.intro hge (show C.total ((T.aAa t).take 0)=0 by simp[C.total]))));clear hw4 hge hb4 hr4
 go_upto_region 3 with(fail)
 go_loopw [6,1] (fun s6 s1 wr=>∃v:Nat,v<=4/\s6= .int .i64 (v:Int)/\s1= .int .i64 ((k / 2 ^ C.total ((T.aAa t).take v):Nat):Int)/\Hid (Below W.heap.size W wr/\wr.heap[ge]? =some (.cells ((ekN t k v).map (Value.int .u32)).toArray 45 (0,0)))) (fun s _ _=>4- (intOf s).toNat)
 case atStart=>exact⟨0,by omega,rfl,by rw[H4.out.2.2.2,Nat.pow_zero,Nat.div_one],kH ⟨H4.out.1,H4.out.2.1⟩⟩
 case round=>
  obtain⟨v,hv4,rfl,rfl,HI⟩:=hrel
  by_cases hlt4:v<4
  ·obtain⟨z,hz⟩:∃z,(T.aAa t)[v]? =some z:=⟨_,zAB (by have:=Hp.out.2.1;omega)⟩;obtain⟨z0,z1⟩:=C.aCx Hp.out.1 hz;have hs:=aEp hz;have hea:=C.aF4 (T.aAa t) k v (by have:=Hp.out.2.1;omega);have hgd:(T.aAa t).getD v 0=z:=by rw[List.getD,hz];rfl
   rw[hgd]at hea;obtain⟨K,hK⟩:∃K,C.total ((T.aAa t).take v)=K:=⟨_,rfl⟩;obtain⟨m,rfl⟩:∃m:Nat,z=m:=⟨z.toNat,by omega⟩;rw[hK,zBA]at hs hea;rw[hK];obtain⟨q,hq⟩:∃q,k / 2 ^ K=q:=⟨_,rfl⟩;rw[hq]at hea⊢;have hqk:q<=k:=by rw[<-hq];exact Nat.div_le_self _ _
   have hm32:m<=32:=by omega
   have hc:=(HI.out.1.cell (p:=⟨g,v,none⟩) (gA Hp.out.2.2).1).trans (cell_of_row W g v _ _ (0,0) Hp.out.2.2);rw[zAV,zAW,hz]at hc;have hc:wr.cell? ⟨g,v,none⟩=some (.int .i64 (m:Int)):=hc;have hv3:(v:Int) < 4:=by omega
   have hfz:wr.frozen? ⟨ge,v,none⟩=false:=aCm HI.out.2 _;have hcv:wr.cell? ⟨ge,v,none⟩=some (.int .u32 0):=by rw[cell_of_row _ _ _ _ _ (0,0) HI.out.2,zAV,zAW,aHa _ _ _ hlt4,if_neg (by omega)];rfl
   have Hs:=kH (And.intro hs (And.intro hea hq));have h2m:(2:Nat) ^ m<=4294967296:=zBK (zAJ (by decide) hm32) (by decide);have h2p:=Nat.two_pow_pos m;obtain⟨pm,hpm⟩:∃p:Nat,2 ^ m=p:=⟨_,rfl⟩;rw[hpm]at h2m h2p;have hw:IntKind.i64.wrap ((2:Int) ^ m)=(pm:Int):=by
    have h1:(2:Int) ^ m=((2 ^ m:Nat):Int):=by simp
    rw[h1,hpm];exact IntWalk.i64_in _ (by omega)
   clear hs hK hz hea hgd hq;go_wp2;have hdq:wrap64 ((q:Int) / (pm:Int))=((q / pm:Nat):Int):=by
    have h1:q / pm<=q:=Nat.div_le_self _ _;have h2:wrap64 ((q / pm:Nat):Int)=((q / pm:Nat):Int):=by
     obtain⟨r,hr⟩:∃r,q / pm=r:=⟨_,rfl⟩;rw[hr]at h1⊢;exact IntWalk.wrap64_in _ (by omega)
    rw[<-Int.natCast_ediv,h2]
   have hmq:(q:Int) % (pm:Int) % 4294967296=((q % 2 ^ m:Nat):Int):=by
    have h1:q % pm<pm:=Nat.mod_lt _ h2p;rw[hpm,<-Int.natCast_emod];obtain⟨r,hr⟩:∃r,q % pm=r:=⟨_,rfl⟩;rw[hr]at h1⊢;omega
   rw[hdq,hmq];go_roundw
   case rel=>
    refine⟨v+1,by omega,by go_num,?_,kH ⟨HI.out.1.setCell (p:=⟨ge,v,none⟩) (zAM H4.out.2.2.1) _,?_⟩⟩
    ·rw[Hs.out.1,Nat.pow_add,<-Nat.div_div_eq_div_mul,Hs.out.2.2,hpm]
    ·rw[heap_setCell_same wr ge v _ _ _ HI.out.2,<-aO1 t k hlt4,Hs.out.2.1,List.map_set];simp
   case measure=>simp[intOf];omega
  ·obtain rfl:v=4:=by omega
   have hrow:=HI.out.2;rw[aMv]at hrow;have hel:(C.envK (T.aAa t) k).length=4:=by rw[C.aE6];exact Hp.out.2.1
   have hsl:=aGw hrow (by rw[hel];omega);rw[hel]at hsl;have Hsl:=kH hsl;clear hrow hel hsl;go_wp2;go_ret;exact⟨_,_,rfl,Hsl.out,HI.out.1⟩
end
section
open Go.RowKit
theorem aGe(t:List T.Nd)(n ct:Nat)(At:Option Addr)(W:World)(hT:StAt 5 NdR W At n t):Calls prog 22 #[.slice At n ct] W (WsR t W):=by
 have HV:=kH (aE0 t n ct At W hT);have HT:=kH hT;have hlen:=hT.len;clear hT
 by_cases hv:T.valid true t=0
 ·obtain⟨v1,v2,v3,v4,v5⟩:=aBk hv;rw[hv]at HV;have HW:=kH (fun W' (h:Below W.heap.size W W')=>aLu t n ct At W' (HT.out.below aAh h) (T.aFc v3 (aBq HT.out)) (by omega));have Hv:=kH hv;clear hv v1 v2 v3 v4 v5 hlen
  go_enter func22,ntmps22
  go_wp2_with fail
  refine HV.out.mono ?_;rintro e w1 ⟨rfl,hb1⟩;have Hb1:=kH hb1;clear hb1
  go_wp2_with fail
  refine(HW.out _ Hb1.out).mono ?_;rintro e w2 ⟨g,rfl,hg,hrow,hb2⟩;have Hb2:=kH (Hb1.out.trans (hb2.mono Hb1.out.size));have Hg:=kH (zBK Hb1.out.size hg);have Hrow:=kH hrow;clear hb2 hg hrow;go_wp2;go_ret2;exact⟨Hb2.out, .inr ⟨Hv.out,g,rfl,Hg.out,Hrow.out⟩⟩
 ·have Hv:=kH hv;obtain⟨er,her⟩:∃er,er=T.valid true t:=⟨_,rfl⟩;rw[<-her]at HV hv;have hvb:(er != 0)=true:=by simpa using hv
  have Her:=kH her;clear her hlen
  go_enter func22,ntmps22
  go_wp2_with fail
  refine HV.out.mono ?_;rintro e w1 ⟨rfl,hb1⟩;have Hb1:=kH hb1;clear hb1;go_wp2;go_ret2;exact⟨Hb1.out, .inl ⟨Hv.out,by rw[<-Her.out];rfl⟩⟩
end
section
open Go.RowKit
theorem aEq(t:List T.Nd)(n ct:Nat)(At:Option Addr)(W:World)(hT:StAt 5 NdR W At n t):
 Calls prog 17 #[.slice At n ct] W fun e w'=>e= .returned (.tuple #[.int .i64 (envsE t).1, .int .i64 (envsE t).2])/\Below W.heap.size W w':=by
 have HW:=kH (aGe t n ct At W hT);have Hi:=kH (aBq hT);obtain⟨ve,hve⟩:∃c,T.valid true t=c:=⟨_,rfl⟩;have Hve:=kH hve;clear hT hve
 by_cases h0:ve=0
 ·subst h0;have htm:=(C.tm_of Hve.out Hi.out).1;have hwl:=T.aA9 t;have hsm:=C.aCt htm;have he:envsE t=if 16<C.total (T.aAa t)then(0,3)else(((2 ^ C.total (T.aAa t):Nat):Int),0):=by unfold envsE;rw[if_neg (by simp[Hve.out])]
  have Hp:=kH (And.intro htm (And.intro hwl (And.intro hsm he)));clear htm hwl hsm he
  go_enter func17,ntmps17
  go_wp2_with fail
  refine HW.out.mono ?_;rintro e w1 ⟨hb,⟨hno,_⟩ |⟨_,g,rfl,hg,hrow⟩⟩
  ·exact absurd Hve.out hno
  ·have Hrow:=kH (And.intro hrow hb);clear hrow hb HW hg
   go_upto_region 6 with(fail)
   go_loopw [7,6] (fun s7 s6 wr=>∃v:Nat,v<=4/\s7= .int .i64 (v:Int)/\s6= .int .i64 ((C.total ((T.aAa t).take v):Nat):Int)/\wr=w1) (fun s _ _=>4- (intOf s).toNat)
   case atStart=>exact⟨0,by omega,rfl,by simp[C.total],rfl⟩
   case round=>
    obtain⟨v,hv4,rfl,rfl,rfl⟩:=hrel
    by_cases hlt:v<4
    ·obtain⟨z,hz⟩:∃z,(T.aAa t)[v]? =some z:=⟨_,zAB (by have:=Hp.out.2.1;omega)⟩;obtain⟨z0,z1⟩:=C.aCx Hp.out.1 hz;have hs:=aEp hz;have ht1:=C.aCp (T.aAa t) v (by have:=Hp.out.2.1;omega);obtain⟨K,hK⟩:∃K,C.total ((T.aAa t).take v)=K:=⟨_,rfl⟩;obtain⟨m,rfl⟩:∃m:Nat,z=m:=⟨z.toNat,by omega⟩;rw[hK,zBA]at hs;rw[hK];have hKm:K<=128:=by have:=Hp.out.2.2.1;omega
     have hc:=cell_of_row wr g v _ _ (0,0) Hrow.out.1;rw[zAV,zAW,hz]at hc;have hc:wr.cell? ⟨g,v,none⟩=some (.int .i64 (m:Int)):=hc;have hv3:(v:Int) < 4:=by omega
     have Hs:=kH hs;clear hs ht1 hK hz;go_wp2;go_roundw
     case rel=>exact⟨v+1,by omega,by go_num,by rw[Hs.out,Int.natCast_add],trivial⟩
     case measure=>simp[intOf];omega
    ·obtain rfl:v=4:=by omega
     have hfull:(T.aAa t).take 4=T.aAa t:=zAK (by have:=Hp.out.2.1;omega);rw[hfull];obtain⟨K,hK⟩:∃K,C.total (T.aAa t)=K:=⟨_,rfl⟩;have hsm:K<=128:=by rw[<-hK];exact Hp.out.2.2.1
     rw[hK];have HK:=kH (show envsE t=if 16<K then(0,3)else(((2 ^ K:Nat):Int),0)from by rw[Hp.out.2.2.2,hK]);clear hK hfull
     by_cases h16:16<K
     ·have hgt:(16:Int) <(K:Int):=by omega
      have Hh:=kH h16;go_wp2;go_ret2;exact⟨by rw[HK.out,if_pos Hh.out];rfl,Hrow.out.2⟩
     ·have hle:¬(16:Int) <(K:Int):=by omega
      have hdec:decide ((16:Int) <(K:Int))=false:=by simpa using hle
      obtain⟨p,hp⟩:∃p:Nat,2 ^ K=p:=⟨_,rfl⟩;have hp2:p<=65536:=by rw[<-hp];exact zBK (zAJ (by decide) (show K<=16 by omega)) (by decide)
      have Hh:=kH h16;go_wp2;have hw:wrap64 ((2:Int) ^ K)=((2 ^ K:Nat):Int):=by
       have h1:(2:Int) ^ K=((2 ^ K:Nat):Int):=by simp
       rw[h1,hp,IntWalk.wrap64_in _ (by omega)]
      rw[hw];go_ret2;exact⟨by rw[HK.out,if_neg Hh.out];rfl,Hrow.out.2⟩
 ·have hq:(ve == 0)=false:=by simpa using h0
  have hq2:(ve != 0)=true:=by simpa using h0
  have he:envsE t=(0,ve):=by unfold envsE;rw[Hve.out,if_pos h0]
  have Hne:=kH h0;rw[he];clear h0 he
  go_enter func17,ntmps17
  go_wp2_with fail
  refine HW.out.mono ?_;rintro e w1 ⟨hb,⟨hno,rfl⟩ |⟨hyes,_⟩⟩
  ·rw[Hve.out];have Hb1:=kH hb;clear hb HW hno;go_wp2;go_ret2;exact⟨rfl,Hb1.out⟩
  ·exact absurd (Hve.out.symm.trans hyes) Hne.out
theorem aJe(t:List T.Nd)(n ct:Nat)(At:Option Addr)(W:World)(hT:StAt 5 NdR W At n t):
 Calls prog 19 #[.slice At n ct] W fun e w'=>e= .returned (.tuple #[.int .i64 (aBi t).1, .int .i64 (aBi t).2])/\Below W.heap.size W w':=by
 have HC:=kH (aEc t n ct At W hT);have HE:=kH (fun X (hX:Below W.heap.size W X)=>aEq t n ct At X (hT.below aAh hX));have Hi:=kH (aBq hT);have HT:=kH hT;obtain⟨ce,hce⟩:∃c,aAb t=c:=⟨_,rfl⟩;rw[hce]at HC;have Hce:=kH hce;clear hT hce
 by_cases h0:ce=0
 ·subst h0;obtain⟨hv,_⟩:=aBa Hce.out;have hee:envsE t=if 16<C.total (T.aAa t)then(0,3)else(((2 ^ C.total (T.aAa t):Nat):Int),0):=by unfold envsE;rw[if_neg (by simp[hv])]
  have hco:aBi t=if 16<C.total (T.aAa t)then(0,3)else((C.cntTo t (C.nEnv t):Int),0):=by unfold aBi;rw[if_neg (by simp[Hce.out])]
  rw[hco];rw[hee]at HE
  by_cases h16:16<C.total (T.aAa t)
  ·rw[if_pos h16];rw[if_pos h16]at HE;clear hco hee h16 hv
   go_enter func19,ntmps19
   go_wp2_with fail
   refine HC.out.mono ?_;rintro e w1 ⟨rfl,hb1⟩;have HBk:=kH (HE.out w1 hb1);have Hb1:=kH hb1;clear hb1 HC HE
   go_wp2_with fail
   refine HBk.out.mono ?_;rintro e w2 ⟨rfl,hb2⟩;have Hb2:=kH (Hb1.out.trans (hb2.mono Hb1.out.size));clear hb2 HBk;go_wp2;go_ret2;exact⟨rfl,Hb2.out⟩
  ·rw[if_neg h16];rw[if_neg h16]at HE;have htm:=(C.tm_of hv Hi.out).1;have hwl:=T.aA9 t;have HW:=kH (fun X (hX:Below W.heap.size W X)=>aGe t n ct At X (HT.out.below aAh hX));have hpw:2 ^ C.total (T.aAa t)<=65536:=zBK (zAJ (by decide) (show C.total (T.aAa t)<=16 by omega)) (by decide);obtain⟨p,hp⟩:∃p:Nat,2 ^ C.total (T.aAa t)=p:=⟨_,rfl⟩;rw[hp]at hpw HE;have Hp:=kH (And.intro htm (And.intro hwl (And.intro hp hv)));clear hco hee h16 htm hwl hp hv
   go_enter func19,ntmps19
   go_wp2_with fail
   refine HC.out.mono ?_;rintro e w1 ⟨rfl,hb1⟩;have HBk:=kH (HE.out w1 hb1);have Hb1:=kH hb1;clear hb1 HC HE
   go_wp2_with fail
   refine HBk.out.mono ?_;rintro e w2 ⟨rfl,hb2⟩;have HWk:=kH (HW.out w2 (Hb1.out.trans (hb2.mono Hb1.out.size)));have Hb2:=kH (Hb1.out.trans (hb2.mono Hb1.out.size));clear hb2 HBk HW
   go_wp2_with fail
   refine HWk.out.mono ?_;rintro e w3 ⟨hb,⟨hno,_⟩ |⟨_,g,rfl,hg,hrow⟩⟩
   ·exact absurd Hp.out.2.2.2 hno
   ·have H3:=kH (And.intro (Hb2.out.trans (hb.mono Hb2.out.size)) hrow);clear hb hg hrow HWk
    go_upto_region 10 with(fail)
    go_loopw [9,8] (fun s9 s8 wr=>∃k:Nat,k<=p/\s9= .int .i64 (k:Int)/\s8= .int .i64 ((C.cntTo t k:Nat):Int)/\Hid (Below w3.heap.size w3 wr)) (fun s _ _=>p- (intOf s).toNat)
    case atStart=>exact⟨0,zBL _,rfl,rfl,kH (Below.refl _ _)⟩
    case round=>
     obtain⟨k,hk,rfl,rfl,HL⟩:=hrel
     by_cases hlt:k<p
     ·have hkp:(k:Int) <(p:Int):=by omega
      have HEn:=kH (aS2 t g k wr ((HL.out.block _ (gA H3.out.2).1).trans H3.out.2) Hp.out.1 (by omega))
      go_wp2_with fail
      refine HEn.out.mono ?_;rintro e w4 ⟨A4,c4,rfl,hsl,hb4⟩;have hb4':=HL.out.trans (hb4.mono HL.out.size);have hbw:Below W.heap.size W w4:=H3.out.1.trans (hb4'.mono H3.out.1.size);have hok:=C.aDt Hp.out.1 k;have HEv:=kH (aJc t (C.envK (T.aAa t) k) n ct c4 At A4 w4 (HT.out.below aAh hbw) hsl Hp.out.2.2.2 hok);have hbit:=aS1 Hce.out Hi.out hok;obtain⟨rvv,hrvv⟩:∃r,C.rv t (C.envK (T.aAa t) k)=r:=⟨_,rfl⟩;rw[hrvv]at HEv hbit;have Hr:=kH (And.intro hrvv hb4');have hcn:=C.aHk t k;obtain⟨cn,hcn'⟩:∃c,C.cntTo t k=c:=⟨_,rfl⟩;rw[hcn']at hcn⊢;have Hcn:=kH hcn';clear hsl hb4 hb4' hbw hok hrvv hcn' HEn
      go_wp2_with fail
      refine HEv.out.mono ?_;rintro e w5 ⟨rfl,hb5⟩;have Hb5:=kH (Hr.out.2.trans (hb5.mono Hr.out.2.size));clear hb5 HEv;rcases hbit with rfl | rfl
      ·go_wp2;go_roundw
       case rel=>exact⟨k+1,by omega,by go_num,by rw[C.cntTo,if_neg (by rw[Hr.out.1];decide),Hcn.out,zBI];try simp,Hb5⟩
       case measure=>simp[intOf];omega
      ·go_wp2;go_roundw
       case rel=>exact⟨k+1,by omega,by go_num,by rw[C.cntTo,if_pos Hr.out.1,Hcn.out,Int.natCast_add];rfl,Hb5⟩
       case measure=>simp[intOf];omega
     ·obtain rfl:k=p:=by omega
      have hcn:C.cntTo t k=C.cntTo t (C.nEnv t):=by unfold C.nEnv;rw[Hp.out.2.2.1]
      rw[hcn];clear hcn;go_wp2;go_ret2;exact⟨rfl,H3.out.1.trans (HL.out.mono H3.out.1.size)⟩
 ·have hq:(ce == 0)=false:=by simpa using h0
  have hq2:(ce != 0)=true:=by simpa using h0
  have he:aBi t=(0,ce):=by unfold aBi;rw[Hce.out,if_pos h0]
  rw[he];clear h0 he
  go_enter func19,ntmps19
  go_wp2_with fail
  refine HC.out.mono ?_;rintro e w1 ⟨rfl,hb1⟩;have Hb1:=kH hb1;clear hb1 HC HE;go_wp2;go_ret2;exact⟨rfl,Hb1.out⟩
end
section
open Go.RowKit
theorem aN5{t:List T.Nd}(h:(aBi t).2=0):aAb t=0/\C.total (T.aAa t)<=16/\(aBi t).1=(C.cntTo t (C.nEnv t):Int)/\(envsE t).1=(C.nEnv t:Int):=by
 unfold aBi at h⊢
 by_cases h0:aAb t≠0
 ·rw[if_pos h0]at h;exact absurd h h0
 ·rw[if_neg h0]at h⊢
  by_cases h1:16<C.total (T.aAa t)
  ·rw[if_pos h1]at h;cases h
  ·rw[if_neg h1];have h2:aAb t=0:=by omega
   refine⟨h2,by omega,rfl,?_⟩;unfold envsE;rw[if_neg (by simp[(aBa h2).1]),if_neg h1];rfl
end
section
open Go.RowKit
theorem aKw(t:List T.Nd)(n ct:Nat)(At:Option Addr)(W:World)(hT:StAt 5 NdR W At n t):
 Calls prog 15 #[.slice At n ct] W fun e w'=>e= .returned (.tuple #[.bool (aCe t).1, .int .i64 (aCe t).2])/\Below W.heap.size W w':=by
 have HC:=kH (aJe t n ct At W hT);have HE:=kH (fun X (hX:Below W.heap.size W X)=>aEq t n ct At X (hT.below aAh hX));clear hT;obtain⟨c2,hc2⟩:∃c,(aBi t).2=c:=⟨_,rfl⟩;rw[hc2]at HC;have Hc2:=kH hc2;clear hc2
 by_cases h0:c2=0
 ·subst h0;obtain⟨k1,k2,k3,k4⟩:=aN5 Hc2.out;have he:aCe t=(decide (C.cntTo t (C.nEnv t)=C.nEnv t),0):=by unfold aCe;rw[if_neg (by simp[Hc2.out])]
  rw[he];rw[k3]at HC;rw[k4]at HE;obtain⟨x,hx⟩:∃x,C.cntTo t (C.nEnv t)=x:=⟨_,rfl⟩;obtain⟨y,hy⟩:∃y,C.nEnv t=y:=⟨_,rfl⟩;rw[hx]at HC⊢;rw[hy]at HE⊢;clear he k1 k2 k3 k4 hx hy
  go_enter func15,ntmps15
  go_wp2_with fail
  refine HC.out.mono ?_;rintro e w1 ⟨rfl,hb1⟩;have HEk:=kH (HE.out w1 hb1);have Hb1:=kH hb1;clear hb1 HC HE
  go_wp2_with fail
  refine HEk.out.mono ?_;rintro e w2 ⟨rfl,hb2⟩;have Hb2:=kH (Hb1.out.trans (hb2.mono Hb1.out.size));clear hb2 HEk
  by_cases hxy:x=y
  ·subst hxy;go_wp2;go_ret2;exact⟨by simp,Hb2.out⟩
  ·have hq:((x:Int)==(y:Int))=false:=by simp;omega
   have Hxy:=kH hxy;go_wp2;go_ret2;exact⟨by rw[zBP Hxy.out];rfl,Hb2.out⟩
 ·have hq:(c2 == 0)=false:=by simpa using h0
  have hq2:(c2 != 0)=true:=by simpa using h0
  have he:aCe t=(false,c2):=by unfold aCe;rw[Hc2.out,if_pos h0]
  rw[he];clear h0 he
  go_enter func15,ntmps15
  go_wp2_with fail
  refine HC.out.mono ?_;rintro e w1 ⟨rfl,hb1⟩;have Hb1:=kH hb1;clear hb1 HC HE;go_wp2;go_ret2;exact⟨rfl,Hb1.out⟩
end
end Go.Proofs.YtchdbhggbdcapaaGreat
section
namespace Go.Proofs.YtchdbhggbdcapaaGreat.C
open S
open T (Nd)
section
variable {cs : List (List Int)} {given : List Int} {s : Int -> Bool}
theorem aN6(hn:∀l,l≠0->s (-l)= !s l)(hc:∀c∈cs,(∀l∈c,l≠0)/\∃l∈c,s l=true)(hg:∀l∈given,l≠0/\s l=true):¬aA2 cs given:=by
 have hd:=fun{l:Int} (h:Der cs given l)=>aMa hn hc (fun l hl=>(hg l hl).2) h
 have hz:∀{l:Int},Der cs given l->l≠0:=fun h=>by
  cases h with
  | given_ h=>exact(hg _ h).1
  | unit_ h1 h2 _=>exact(hc _ h1).1 _ h2
 rintro(⟨l,h1,h2⟩ |⟨c,h1,h2⟩)
 ·have a1:=hd h1;have a2:=hd h2;rw[hn l (hz h1),a1]at a2;cases a2
 ·obtain⟨h4,m,hm,hsm⟩:=hc c h1;have:=hd (h2 m hm);rw[hn m (h4 m hm),hsm]at this;cases this
end
end Go.Proofs.YtchdbhggbdcapaaGreat.C
end
section
namespace Go.Proofs.YtchdbhggbdcapaaGreat.C
open S
open T (Nd)
section
variable {cs : List (List Int)} {given : List Int} {s : Int -> Bool}
theorem bCm(hn:∀l,l≠0->s (-l)= !s l)(hc:∀c∈cs,(∀l∈c,l≠0)/\∃l∈c,s l=true){x:List Int}(hx:∀l∈x,l≠0)(h:fol cs x=true):∃l∈x,s l=true:=by
 apply zAI;intro hno;refine aN6 hn hc (fun l hl=>?_) (aEi.1 h);obtain⟨m,hm,rfl⟩:=zBU.1 hl;have h1:=hx m hm;refine⟨by omega,?_⟩;rw[hn m h1];cases e:s m
 ·rfl
 ·exact absurd ⟨m,hm,e⟩ hno
theorem aS3(hn:∀l,l≠0->s (-l)= !s l):∀(l:List (List Int)) (cs:List (List Int)),(∀c∈cs,(∀l∈c,l≠0)/\∃l∈c,s l=true)->(∀c∈l,∀m∈c,m≠0)->bad cs l=none->∀c∈l,∃m∈c,s m=true
 | [],_,_,_,_,c,hc=>by cases hc
 | x :: r,cs,hc,hl,h,c,hcm=>by
  rw[bad]at h;split at h
  ·rename_i hf;have hx:=bCm hn hc (hl x (List.mem_cons_self ..)) hf;have h2:bad (cs ++ [x]) r=none:=by simpa using h
   rcases zBF.1 hcm with rfl | hm
   ·exact hx
   ·refine aS3 hn r (cs ++ [x]) (fun c hc'=>?_) (fun c hc'=>hl c (zAQ _ hc')) h2 c hm;rcases zBE.1 hc' with hc' | hc'
    ·exact hc c hc'
    ·rw[zBD.1 hc'];exact⟨hl x (List.mem_cons_self ..),hx⟩
  ·cases h
theorem aJw(hn:∀l,l≠0->s (-l)= !s l)(hc:∀c∈cs,(∀l∈c,l≠0)/\∃l∈c,s l=true){l:List (List Int)}(hl:∀c∈l,∀m∈c,m≠0)(h:S.aBg cs l=none):False:=by
 unfold S.aBg at h;split at h
 ·cases h
 ·rename_i hb;split at h
  ·rename_i hlast;have hm:([]:List Int)∈l:=List.mem_of_getLast? hlast;obtain⟨m,hm,_⟩:=aS3 hn l cs hc hl hb [] hm;cases hm
  ·cases h
end
end Go.Proofs.YtchdbhggbdcapaaGreat.C
end
section
namespace Go.Proofs.YtchdbhggbdcapaaGreat.C
open S
open T (Nd)
section
variable {t : List Nd} {c : Circ}
theorem Says.proved(h:Says t c)(h1:aBw t=1){l:List (List Int)}(hl:∀k∈l,isClause c.b.n k=true)(hf:S.aBg (aAl c (-1)) l=none)(e:E):lsem c.b c.root e=true:=by
 apply zAI;intro hno;have hr:=h.root_lit h1;refine aJw (s:=fun l=>lsem c.b l e) (cs:=aAl c (-1)) (fun l hl=>aAn c.b hl e) (fun k hk=>?_) (fun k hk=>aD4 (hl k hk)) hf;rcases zBE.1 hk with hk | hk
 ·exact⟨aD4 (h.ok.lits k hk),h.ok.sat e k hk⟩
 ·rw[zBD.1 hk];have h0:=aAc hr;have e1:(-1:Int)*c.root= -c.root:=by omega
  rw[e1];refine⟨fun l hl=>by rw[zBD.1 hl];omega,-c.root,zBD.2 rfl,?_⟩
  show lsem c.b (-c.root) e=true
  rw[aAn c.b h0];simpa using hno
end
end Go.Proofs.YtchdbhggbdcapaaGreat.C
end
namespace Go.Proofs.YtchdbhggbdcapaaGreat
open _root_.Go.Proofs.Tryz
section
open Go.RowKit
theorem aH7{t:List T.Nd}{c:C.Circ}{l:List (List Int)}(hc:aAb t=0)(hi:∀y∈t,0<=y.imm)(hb:C.build t=some c)(hf:S.aBg (C.aAl c (-1)) l=none)(hk:∀k∈l,S.isClause c.b.n k=true):C.cntTo t (C.nEnv t)=C.nEnv t:=by
 have hs:=aFi hc hi hb;have h1:=(aBa hc).2;exact(hs.valid_iff h1).1 (hs.proved h1 hk hf)
end
section
open Go.RowKit
theorem aS4(t:List T.Nd)(env:List Int)(n ct ce:Nat)(At Ae:Option Addr)(W:World)(hT:StAt 5 NdR W At n t)(hE:SlAt (IntR .u32) W Ae 4 env)(hS:T.Std t env)(hn:n<=1000000)(hsm:∀x∈t,x.op=0\/x.op=33\/x.op=14):
 Calls prog 113 #[.slice At n ct, .slice Ae 4 ce] W fun e w'=>∃g,e= .returned (.slice (some ⟨g,0,none⟩) n n)/\W.heap.size<=g/\w'.heap[g]? =some (.cells ((T.vals t env).map (Value.int .u32)).toArray 45 (0,0))/\Below W.heap.size W w':=by
 have HT:=kH hT;have HE:=kH hE;have HS:=kH hS;have Hlen:=kH hT.len;have hle:=hT.le;have Hsm:=kH hsm;clear hT hE hS hsm;have hmk:=fun(W':World)=>aBd (P:=prog) 42 45 (.int .u32 0) 4 underlying42 aC1 rfl .i64 .i64 n (n:Int) rfl (by omega) (by omega) W'
 go_enter func113,ntmps113
 go_wp2;clear hmk
 go_loopg [16] (n+1) (fun g i wr=>∃(j:Nat),j<=n/\i= .int .i64 (j:Int)/\g+j=n+1/\Below W.heap.size W wr/\W.heap.size+1<wr.heap.size/\Hid (wr.heap[W.heap.size]? =some (.cells (fillC (T.valsTo t env j) n).toArray 45 (0,0)))/\Hid (wr.heap[W.heap.size+1]? =some (.cells #[.slice (some ⟨W.heap.size,0,none⟩) n n] 42 (0,0))))
 case atStart=>exact⟨0,zBL _,rfl,rfl,(al0).alloc (by simp) _,by simp,kH (by rw[show(fillC (T.valsTo t env 0) n).toArray=Array.replicate n (.int .u32 0)from aPi n];exact aA1 (heap_alloc_new W _) _),kH (aC2 W _ _)⟩
 case round=>
  obtain⟨j,hj,rfl,hgk,hbw,hsz,HG,HO⟩:=hrel;have Hgk:=kH hgk;clear hgk
  by_cases hlt:j<n
  ·obtain⟨x,b,off,A,c,hx,rfl,hb,h0,h1,h2,h3,h4,hs,i0,i1⟩:=aBf (HT.out.below aAh hbw) hlt;have Hx:=kH hx;have hcase0:=Hsm.out x (zAC hx);have Hval:=kH (show T.valsTo t env (j+1)=T.valsTo t env j ++ [T.val t (T.valsTo t env j) env x]from by rw[T.valsTo,aAi hx]);have Hnod:=kH (show T.Nod t env (T.valsTo t env j) x from HS.out.nod (T.aFs HS.out j (by rw[Hlen.out];omega)) (by rw[T.valsTo_len];exact hx));obtain⟨vv,hvv⟩:∃vv,vv=T.val t (T.valsTo t env j) env x:=⟨_,rfl⟩;rw[<-hvv]at Hval;have Hvv:=kH hvv;have Hs:=kH hs;have Hb:=kH hbw;obtain⟨W1,hW1⟩:∃W1,W1=wr.alloc (.cells #[.int .i64 x.op, .int .i64 x.w, .int .i64 x.fl, .slice A x.args.length c, .int .u32 x.imm] 56):=⟨_,rfl⟩;have hB1:Below wr.heap.size wr W1:=by rw[hW1];exact al0
   have hr1:W1.heap[wr.heap.size]? =some (.cells #[.int .i64 x.op, .int .i64 x.w, .int .i64 x.fl, .slice A x.args.length c, .int .u32 x.imm] 56 (0,0)):=by rw[hW1];exact heap_alloc_new wr _
   have HB1:=kH hB1;obtain⟨ov⟩:=ov_ex W1;have Hs1:=kH (show W1.heap.size=wr.heap.size+1 from by rw[hW1];simp);have hX:W1.cell? ⟨wr.heap.size,0,none⟩=some (.int .i64 x.op)/\W1.cell? ⟨wr.heap.size,1,none⟩=some (.int .i64 x.w)/\W1.cell? ⟨wr.heap.size,3,none⟩=some (.slice A x.args.length c)/\W1.cell? ⟨wr.heap.size,4,none⟩=some (.int .u32 x.imm):=by
    refine⟨?_,?_,?_,?_⟩
    all_goals rw[cell_of_row _ _ _ _ _ (0,0) hr1];rfl
   obtain⟨x0,x1,x3,x4⟩:=hX;have HG1:=kH (aBt HB1 HG.out);have HO1:=kH (aBt HB1 HO.out);have ho1:W1.cell? ⟨W.heap.size+1,0,none⟩=some (.slice (some ⟨W.heap.size,0,none⟩) n n):=by rw[cell_of_row _ _ _ _ _ (0,0) HO1.out];rfl
   have Hb1:=kH (show Below W.heap.size W W1 from Hb.out.trans (HB1.out.mono Hb.out.size));have Hfin:=kH (show∀(X:World) (u:Int),Below W1.heap.size W1 X->vv=u->Below W.heap.size W (X.setCell ⟨W.heap.size,j,none⟩ (.int .u32 u))/\W.heap.size+1<(X.setCell ⟨W.heap.size,j,none⟩ (.int .u32 u)).heap.size/\Hid ((X.setCell ⟨W.heap.size,j,none⟩ (.int .u32 u)).heap[W.heap.size]? =some (.cells (fillC (T.valsTo t env (j+1)) n).toArray 45 (0,0)))/\Hid ((X.setCell ⟨W.heap.size,j,none⟩ (.int .u32 u)).heap[W.heap.size+1]? =some (.cells #[.slice (some ⟨W.heap.size,0,none⟩) n n] 42 (0,0)))from fun X u hX hu=>by
    have hXs:=hX.size;have e1:=Hs1.out;refine⟨(Hb1.out.trans (hX.mono Hb1.out.size)).setCell (p:=⟨W.heap.size,j,none⟩) (zBJ _) _,by simp;omega,kH ?_,kH ?_⟩
    ·subst hu;rw[Hval.out];exact aPj (aBt (kH hX) HG1.out) (T.valsTo_len _ _ _) hlt
    ·rw[heap_setCell_other _ _ _ _ (by simp)];exact aBt (kH hX) HO1.out)
   have HfinZ:=kH (show∀(X:World),Below W1.heap.size W1 X->vv=0->Below W.heap.size W X/\W.heap.size+1<X.heap.size/\Hid (X.heap[W.heap.size]? =some (.cells (fillC (T.valsTo t env (j+1)) n).toArray 45 (0,0)))/\Hid (X.heap[W.heap.size+1]? =some (.cells #[.slice (some ⟨W.heap.size,0,none⟩) n n] 42 (0,0)))from fun X hX hu=>by
    have hXs:=hX.size;have e1:=Hs1.out;refine⟨Hb1.out.trans (hX.mono Hb1.out.size),by omega,kH ?_,kH (aBt (kH hX) HO1.out)⟩;subst hu;rw[Hval.out,aPx (by rw[T.valsTo_len];exact hlt)];exact aBt (kH hX) HG1.out)
   have hsf:∀(X:World),Below W1.heap.size W1 X->(∃v0,X.cell? ⟨W.heap.size,j,none⟩=some v0)/\X.frozen? ⟨W.heap.size,j,none⟩=false:=fun X hX=>by
    obtain⟨q1,q2⟩:=aPk (aBt (kH hX) HG1.out) (a:=j) (by rw[T.valsTo_len];omega) hlt;exact⟨Option.isSome_iff_exists.1 q1,q2⟩
   have Hsf:=kH hsf;have HClo:=kH (show∀(u:World) (i:Nat),i<x.args.length->0<=x.args.getD i 0/\x.args.getD i 0<(j:Int)->Calls prog 143 #[.int .i64 (i:Int), .pointer (some ⟨W.heap.size+1,0,none⟩), .pointer (some ⟨wr.heap.size,0,none⟩)] (ov.f u) (fun e w'=>e= .returned (.int .u32 (T.at_ (T.valsTo t env j) x i))/\∃m,w'=ov.f m)from fun u i hi ha=>by
    have hV:=(aPw HG1.out (by rw[T.valsTo_len];omega) hn).below (aAd _) (ov.below u);have hA:=(hs.below (aAd _) hB1).below (aAd _) (ov.below u);have:=aN0 _ x.args i (W.heap.size+1) wr.heap.size n x.args.length c n _ A (ov.f u) hV hA (ov.cell ho1 u) (ov.cell x3 u) hi ⟨ha.1,by omega⟩;have he:(T.valsTo t env j ++ List.replicate (n- (T.valsTo t env j).length) (0:Int)).getD (x.args.getD i 0).toNat 0=T.at_ (T.valsTo t env j) x i:=by unfold T.at_;exact T.aNj (by rw[T.valsTo_len];omega)
    rw[he]at this;exact aJr this)
   obtain⟨op,w,fl,args,imm⟩:=x
   dsimp only at h0 h1 h2 h3 h4 x0 x1 x3 x4 i0 i1 hW1
   clear hx hvv hs hbw hB1 hr1 hsf
   dsimp only at hcase0
   rcases hcase0 with rfl | rfl | rfl
   ·have Hv:=kH (show vv=imm from Hvv.out.trans (T.val_0 rfl));obtain⟨⟨v0,hv0⟩,hf0⟩:=Hsf.out W1 (Below.refl _ _);subst hW1;go_wp2;obtain⟨g1,g2,g3,g4⟩:=Hfin.out _ imm (Below.refl _ _) Hv.out
    go_roundg (gk-1)
    case measure=>have:=Hgk.out;omega
    case rel=>have:=Hgk.out;exact⟨j+1,by omega,by go_num,by omega,g1,g2,g3,g4⟩
   ·have Hi:=kH (show imm<4 from by have:=Hnod.out.imm;unfold T.immOk at this;simpa using this);obtain⟨v,rfl⟩:∃v:Nat,imm=v:=⟨imm.toNat,by omega⟩;have hv4:v<4:=by have:=Hi.out;omega
    obtain⟨y,be,offe,ue,hy,rfl,hbe,hce,hue⟩:=(HE.out.below (aAd _) Hb1.out).at_ hv4;obtain rfl:ue= .int .u32 y:=hue;have Hv:=kH (show vv=y from by rw[Hvv.out,T.aSu rfl];exact aAi hy);have o1:=ov.cell ho1;have o2:=ov.cell hce;have o3:=ov.cell x4;clear hy hbe hce;rw[hW1]at x0;go_wp2;rw[<-hW1]at x0⊢;clear hW1 h0 h1 h2 h3 h4;refine aDe ov (by kernel_rfl) (by kernel_rfl) ?_
    dsimp only[aEv,aEu]
    repeat(go_big_quiet_step (fail))
    refine wpQuiet_nil ?_;clear o1 o2 o3 x0 x1 x3 x4;rintro _ ⟨u,rfl⟩ K hK;have hb2:=ov.below u;obtain⟨⟨v0,hv0⟩,hf0⟩:=Hsf.out _ hb2;obtain⟨g1,g2,g3,g4⟩:=Hfin.out _ (y) hb2 Hv.out;generalize ov.f u=w2 at hv0 hf0 g1 g2 g3 g4⊢;clear hb2;go_wp2;refine hK _ _ ?_;clear hK K;go_wp2
    go_roundg (gk-1)
    case measure=>have:=Hgk.out;omega
    case rel=>have:=Hgk.out;exact⟨j+1,by omega,by go_num,by omega,g1,g2,g3,g4⟩
   ·obtain⟨hl,m0,m9,ew⟩:=Hnod.out.cmp rfl
    dsimp only at hl m0 m9
    have hlo0:=Hnod.out.lo 0 (by dsimp only at hl⊢;omega);rw[T.valsTo_len]at hlo0
    dsimp only at hlo0
    have hlo1:=Hnod.out.lo 1 (by dsimp only at hl⊢;omega);rw[T.valsTo_len]at hlo1
    dsimp only at hlo1
    have hzw0:=Hnod.out.wd 0 (by dsimp only at hl⊢;omega);have ha0:=Hnod.out.at_ 0 (by dsimp only at hl⊢;omega);have ha1:=Hnod.out.at_ 1 (by dsimp only at hl⊢;omega);rw[ew]at ha1;obtain⟨a0,hga0⟩:∃a0,a0=T.at_ (T.valsTo t env j) ⟨14,w,fl,args,imm⟩ 0:=⟨_,rfl⟩;obtain⟨a1,hga1⟩:∃a1,a1=T.at_ (T.valsTo t env j) ⟨14,w,fl,args,imm⟩ 1:=⟨_,rfl⟩;have HC0:=kH (show∀u,Calls prog 143 #[.int .i64 0, .pointer (some ⟨W.heap.size+1,0,none⟩), .pointer (some ⟨wr.heap.size,0,none⟩)] (ov.f u) (fun e w'=>e= .returned (.int .u32 a0)/\∃m,w'=ov.f m)from fun u=>by rw[hga0];exact HClo.out u 0 (by dsimp only at hl⊢;omega) hlo0);have HC1:=kH (show∀u,Calls prog 143 #[.int .i64 1, .pointer (some ⟨W.heap.size+1,0,none⟩), .pointer (some ⟨wr.heap.size,0,none⟩)] (ov.f u) (fun e w'=>e= .returned (.int .u32 a1)/\∃m,w'=ov.f m)from fun u=>by rw[hga1];exact HClo.out u 1 (by dsimp only at hl⊢;omega) hlo1);obtain⟨y0,ba,offa,ua,hy,hA0,_,hca,hua⟩:=(Hs.out.below (aAd _) HB1.out).at_ (k:=0) (show 0<args.length by omega);subst hA0;rw[zBI]at hca;obtain rfl:ua= .int .i64 y0:=hua;have hlo9:=hlo0;rw[aAi hy]at hlo9;obtain⟨q,rfl⟩:∃q:Nat,y0=q:=⟨y0.toNat,by omega⟩;have hqn:q<n:=by omega
    obtain⟨zz,bz,offz,A2,c2,hz,hAz,hbz,_,hw2,_⟩:=aBf (HT.out.below aAh Hb1.out) (j:=q) hqn;cases hAz;have ewd:T.wd t ⟨14,w,fl,args,imm⟩ 0=zz.w:=by unfold T.wd;dsimp only;rw[aAi hy,zBA,aAi hz]
    obtain⟨zw,hzw⟩:∃zw,zw=zz.w:=⟨_,rfl⟩;rw[<-hzw]at ewd hw2;have o5:=ov.cell hca;have o6:=ov.cell hw2;have hv9:=Hvv.out.trans (T.aSv rfl)
    dsimp only at hv9
    rw[<-hga0,<-hga1,ewd]at hv9;rw[ewd]at ha0 ha1 hzw0;rw[<-hga0]at ha0;rw[<-hga1]at ha1;have hQ:=fun W':World=>aKd imm zw a0 a1 W' m0 m9 hzw0.1 hzw0.2 ha0.1 ha0.2 ha1.1 ha1.2
    generalize T.cmp imm zw a0 a1=cc at hv9 hQ;have HQ:=kH (show∀u,Calls prog 144 #[.int .i64 imm, .int .i64 zw, .int .u32 a0, .int .u32 a1] (ov.f u) (fun e w'=>e= .returned (.tuple #[.bool cc, .int .i64 0])/\∃m,w'=ov.f m)from fun u=>aFv (hQ _));have hle3:=Hs.out.le
    dsimp only at hle3
    rw[hl]at h3 x3 hW1 hle3;have o3:=ov.cell x4;have o4:=ov.cell x3;clear hQ hga0 hga1 hzw ewd hz hy ha0 ha1 ew hzw0 hlo0 hlo1 hlo9 HClo hl hca hw2 hbz m0 m9;rw[hW1]at x0;go_wp2;rw[<-hW1]at x0⊢;clear hW1 h0 h1 h2 h3 h4;refine aDq ov (by kernel_rfl) (by kernel_rfl) ?_
    repeat(go_big_quiet_step ((first |(go_at_call 143;with_reducible exact HC0.out _) |(go_at_call 143;with_reducible exact HC1.out _) |(go_at_call 144;with_reducible exact HQ.out _))))
    refine wpQuiet_nil ?_;clear o3 o4 o5 o6 x0 x1 x3 x4 HC0 HC1 HQ;rintro _ ⟨u,rfl⟩;have hb2:=ov.below u;cases cc
    ·have Hv:=kH (show vv=0 from by rw[hv9];simp);clear hv9;obtain⟨g1,g2,g3,g4⟩:=HfinZ.out _ hb2 Hv.out;generalize ov.f u=w2 at g1 g2 g3 g4⊢;clear hb2;go_wp2
     go_roundg (gk-1)
     case measure=>have:=Hgk.out;omega
     case rel=>have:=Hgk.out;exact⟨j+1,by omega,by go_num,by omega,g1,g2,g3,g4⟩
    ·have Hv:=kH (show vv=1 from by rw[hv9];simp);clear hv9;obtain⟨⟨v0,hv0⟩,hf0⟩:=Hsf.out _ hb2;obtain⟨g1,g2,g3,g4⟩:=Hfin.out _ 1 hb2 Hv.out;have ho2:=ov.cell ho1 u;generalize ov.f u=w2 at hv0 hf0 g1 g2 g3 g4 ho2⊢;clear hb2;go_wp2
     go_roundg (gk-1)
     case measure=>have:=Hgk.out;omega
     case rel=>have:=Hgk.out;exact⟨j+1,by omega,by go_num,by omega,g1,g2,g3,g4⟩
  ·obtain rfl:j=n:=by omega
   have hrow:=HG.out;rw[aNf (T.valsTo_len t env j),show T.valsTo t env j=T.vals t env from by unfold T.vals;rw[Hlen.out]]at hrow;have ho1:wr.cell? ⟨W.heap.size+1,0,none⟩=some (.slice (some ⟨W.heap.size,0,none⟩) j j):=by rw[cell_of_row _ _ _ _ _ (0,0) HO.out];rfl
   have Hrow:=kH hrow;have Hb:=kH hbw;clear hrow hbw;go_wp2;go_ret;exact⟨W.heap.size,rfl,zBJ _,Hrow.out,Hb.out⟩
theorem aUo(t:List T.Nd)(env:List Int)(n ct ce:Nat)(At Ae:Option Addr)(W:World)(hT:StAt 5 NdR W At n t)(hE:SlAt (IntR .u32) W Ae 4 env)(hv:T.valid true t=0)(he:T.EnvOk t env)(hsm:∀x∈t,x.op=0\/x.op=33\/x.op=14):
 Calls prog 66 #[.slice At n ct, .slice Ae 4 ce] W fun e w'=>∃g,e= .returned (.tuple #[.slice (some ⟨g,0,none⟩) n n, .int .i64 0])/\W.heap.size<=g/\w'.heap[g]? =some (.cells ((T.vals t env).map (Value.int .u32)).toArray 45 (0,0))/\Below W.heap.size W w':=by
 have HWs:=kH (aDs t n ct At W hT);have hlen:=hT.len;have hn:=(aBk hv).2.1;have HV:=kH (fun W' (hb:Below W.heap.size W W')=>aS4 t env n ct ce At Ae W' (hT.below aAh hb) (hE.below (aAd _) hb) (T.aNk hv (aBq hT) he) (by omega) hsm);obtain⟨v1,v2,v3,v4,v5⟩:=aBk hv;have Hok:=kH (T.aFc v3 (aBq hT));have HE:=kH hE;have Hv:=kH hv;have He:=kH he;have Hi:=kH (aBq hT);have HM:=kH (fun z (h0:1<=z) (h1:z<=32) W'=>aL4 z W');have Hsh:=kH v3;have hle:=hT.le;clear hT hE hv he v1 v2 v3 v4 v5 hlen hn
 go_enter func66,ntmps66
 go_wp2_with fail
 refine HWs.out.mono ?_;rintro e w1 ⟨hb1,h |⟨_,g,rfl,hg,hrow⟩⟩
 ·exact absurd Hv.out h.1
 have Hb1:=kH hb1;have Hrow:=kH hrow;clear hb1 hrow;go_wp2
 go_loopg [25] (5) (fun gh i wr=>∃(k:Nat),k<=4/\i= .int .i64 (k:Int)/\gh+k=5/\w1=wr)
 case atStart=>exact⟨0,by omega,rfl,rfl,rfl⟩
 case round=>
  obtain⟨k,hk,rfl,hgk,rfl⟩:=hrel;have Hgk:=kH hgk;clear hgk
  by_cases hlt:k<4
  ·obtain⟨z,hz⟩:=aLa t hlt;have hc:w1.cell? ⟨g,k,none⟩=some (.int .i64 z):=by rw[cell_of_row _ _ _ _ _ (0,0) Hrow.out,zAV,zAW,hz];rfl
   by_cases hz0:z=0
   ·subst hz0;clear hz;go_wp2
    go_roundg (gk-1)
    case measure=>have:=Hgk.out;omega
    case rel=>have:=Hgk.out;exact⟨k+1,by omega,by go_num,by omega,rfl⟩
   ·obtain⟨i,y,hy,h33,hyv,hyw⟩:=T.aFr hz hz0;have hs:=T.aAo (Hsh.out i y hy);have hz1:1<=z:=by rw[<-hyw];exact hs.2.2.1
    have hz2:z<=32:=by rw[<-hyw];exact hs.2.2.2.1
    obtain⟨x,be,offe,ue,hx,rfl,hbe,hce,hue⟩:=(HE.out.below (aAd _) Hb1.out).at_ hlt;obtain rfl:ue= .int .u32 x:=hue;have hfit:=He.out.fit k z hz hz0;rw[aAi hx]at hfit;have hm:decide (B.pw z-1<x)=false:=by simp;omega
    have hq:(z == 0)=false:=by simpa using hz0
    have hM:=HM.out z hz1 hz2;rw[B.aBj.2 ⟨hz1,hz2⟩]at hM;have HM2:=kH hM;clear hx hbe hfit hy h33 hyv hyw hs hz hz0 hz1 hz2 hM
    go_wp2_with (go_at_call 112;(with_reducible refine(HM2.out _).mono ?_);rintro e w3 ⟨rfl,rfl⟩)
    go_roundg (gk-1)
    case measure=>have:=Hgk.out;omega
    case rel=>have:=Hgk.out;exact⟨k+1,by omega,by go_num,by omega,rfl⟩
  ·obtain rfl:k=4:=by omega
   go_wp2_with fail
   refine(HV.out _ Hb1.out).mono ?_;rintro e w2 ⟨g2,rfl,hg2,hrow2,hb2⟩;have Hb2:=kH (Hb1.out.trans (hb2.mono Hb1.out.size));have Hg2:=kH (zBK Hb1.out.size hg2);have Hrow2:=kH hrow2;clear hb2 hg2 hrow2;go_wp2;go_ret2;exact⟨g2,rfl,Hg2.out,Hrow2.out,Hb2.out⟩
theorem aZ7(t:List T.Nd)(env:List Int)(n ct ce:Nat)(At Ae:Option Addr)(W:World)(hT:StAt 5 NdR W At n t)(hE:SlAt (IntR .u32) W Ae 4 env)(hv:T.valid true t=0)(he:T.EnvOk t env)(hsm:∀x∈t,x.op=0\/x.op=33\/x.op=14):
 Calls prog 42 #[.slice At n ct, .slice Ae 4 ce] W fun e w'=>e= .returned (.tuple #[.int .u32 ((T.vals t env).getD (n-1) 0), .int .i64 0])/\Below W.heap.size W w':=by
 have HV:=kH (aUo t env n ct ce At Ae W hT hE hv he hsm);have hlen:=hT.len;have hn:=(aBk hv).1;have hle:=hT.le;have Hl:=kH (show(T.vals t env).length=n from(T.aR3 t env).trans hlen);rw[hlen]at hn;obtain⟨v,hvv⟩:∃v,v=(T.vals t env).getD (n-1) 0:=⟨_,rfl⟩;rw[<-hvv];have Hvv:=kH hvv;clear hT hE hv he hlen hvv
 go_enter func42,ntmps42
 go_wp2_with fail
 refine HV.out.mono ?_;rintro e w1 ⟨g,rfl,hg,hrow,hb1⟩;have Hb1:=kH hb1;have hx:(T.vals t env)[n-1]? =some v:=by rw[Hvv.out,T.aEk (by rw[Hl.out];omega)];exact zAB _
 have hc:w1.cell? ⟨g,n-1,none⟩=some (.int .u32 v):=by rw[cell_of_row _ _ _ _ _ (0,0) hrow,zAV,zAW,hx];rfl
 have hs:((n:Int)-1).toNat=n-1:=by omega
 clear hb1 hrow hx hg;go_wp2;go_ret2;exact⟨rfl,Hb1.out⟩
theorem aXu(t:List T.Nd)(n ct:Nat)(At:Option Addr)(W:World)(hT:StAt 5 NdR W At n t)(hsm:∀x∈t,x.op=0\/x.op=33\/x.op=14)(hc0:aAb t=0)(h16:¬16<C.total (T.aAa t)):
 Calls prog 18 #[.slice At n ct] W fun e w'=>e= .returned (.tuple #[.int .i64 (aBi t).1, .int .i64 (aBi t).2])/\Below W.heap.size W w':=by
 have HC:=kH (aH4 t n ct At W hT);have HE:=kH (fun X (hX:Below W.heap.size W X)=>aDm t n ct At X (hT.below aAh hX));have Hi:=kH (aBq hT);have HT:=kH hT;obtain⟨ce,hce⟩:∃c,aAb t=c:=⟨_,rfl⟩;rw[hce]at HC;have Hce:=kH hce;clear hT hce;have Hsm:=kH hsm;obtain rfl:ce=0:=by rw[<-Hce.out];exact hc0
 clear hsm hc0;obtain⟨hv,_⟩:=aBa Hce.out;have hee:envsE t=if 16<C.total (T.aAa t)then(0,3)else(((2 ^ C.total (T.aAa t):Nat):Int),0):=by unfold envsE;rw[if_neg (by simp[hv])]
 have hco:aBi t=if 16<C.total (T.aAa t)then(0,3)else((C.cntTo t (C.nEnv t):Int),0):=by unfold aBi;rw[if_neg (by simp[Hce.out])]
 rw[hco];rw[hee]at HE;rw[if_neg h16];rw[if_neg h16]at HE;have htm:=(C.tm_of hv Hi.out).1;have hwl:=T.aA9 t;have HW:=kH (fun X (hX:Below W.heap.size W X)=>aDs t n ct At X (HT.out.below aAh hX));have hpw:2 ^ C.total (T.aAa t)<=65536:=zBK (zAJ (by decide) (show C.total (T.aAa t)<=16 by omega)) (by decide);obtain⟨p,hp⟩:∃p:Nat,2 ^ C.total (T.aAa t)=p:=⟨_,rfl⟩;rw[hp]at hpw HE;have hln:t.length=n:=HT.out.len;have Hp:=kH (And.intro htm (And.intro hwl (And.intro h16 (And.intro hp (And.intro hv hln)))));clear hco hee h16 htm hwl hp hv hln
 go_enter func18,ntmps18
 go_wp2_with fail
 refine HC.out.mono ?_;rintro e w1 ⟨rfl,hb1⟩;have HBk:=kH (HE.out w1 hb1);have Hb1:=kH hb1;clear hb1 HC HE
 go_wp2_with fail
 refine HBk.out.mono ?_;rintro e w2 ⟨rfl,hb2⟩;have HWk:=kH (HW.out w2 (Hb1.out.trans (hb2.mono Hb1.out.size)));have Hb2:=kH (Hb1.out.trans (hb2.mono Hb1.out.size));clear hb2 HBk HW
 go_wp2_with fail
 refine HWk.out.mono ?_;rintro e w3 ⟨hb,⟨hno,_⟩ |⟨_,g,rfl,hg,hrow⟩⟩
 ·exact absurd Hp.out.2.2.2.2.1 hno
 ·have H3:=kH (And.intro (Hb2.out.trans (hb.mono Hb2.out.size)) (And.intro hrow (zBK Hb2.out.size hg)));clear hb hg hrow HWk;have hmk:=fun(W':World)=>aBd (P:=prog) 42 45 (.int .u32 0) 4 underlying42 aC1 rfl .i64 .i64 4 4 (by omega) (by omega) (by omega) W'
  go_upto_region 10 with(fail)
  go_loopw [36,9] (fun s36 s9 wr=>∃k:Nat,k<=p/\s36= .int .i64 (k:Int)/\s9= .int .i64 ((C.cntTo t k:Nat):Int)/\Hid (Below w3.heap.size w3 wr)) (fun s _ _=>p- (intOf s).toNat)
  case atStart=>exact⟨0,zBL _,rfl,rfl,kH (Below.refl _ _)⟩
  case round=>
   obtain⟨k,hk,rfl,rfl,HL⟩:=hrel
   by_cases hlt:k<p
   ·have hkp:(k:Int) <(p:Int):=by omega
    go_upto_region 13 with(fail)
    obtain⟨ge,hge⟩:∃g,wr.heap.size=g:=⟨_,rfl⟩;obtain⟨w4,hw4⟩:∃w4,w4=wr.alloc (Obj.cells (Array.replicate 4 (Value.int IntKind.u32 0)) 45):=⟨_,rfl⟩;rw[<-hw4,hge];have hb4:Below w3.heap.size w3 w4:=by rw[hw4];exact HL.out.alloc HL.out.size _
    have hr4:w4.heap[ge]? =some (.cells ((ekN t k 0).map (Value.int .u32)).toArray 45 (0,0)):=by rw[hw4,<-hge,heap_alloc_new,aMu];rfl
    have H4:=kH (And.intro hb4 (And.intro hr4 (And.intro (show w3.heap.size<=ge by rw[<-hge];exact HL.out.size) (show C.total ((T.aAa t).take 0)=0 by simp[C.total]))));clear hw4 hge hb4 hr4
    go_upto_region 15 with(fail)
    go_loopw [43,12] (fun s43 s12 wr=>∃v:Nat,v<=4/\s43= .int .i64 (v:Int)/\s12= .int .i64 ((k / 2 ^ C.total ((T.aAa t).take v):Nat):Int)/\Hid (Below w3.heap.size w3 wr/\wr.heap[ge]? =some (.cells ((ekN t k v).map (Value.int .u32)).toArray 45 (0,0)))) (fun s _ _=>4- (intOf s).toNat)
    case atStart=>exact⟨0,by omega,rfl,by rw[H4.out.2.2.2,Nat.pow_zero,Nat.div_one],kH ⟨H4.out.1,H4.out.2.1⟩⟩
    case round=>
     obtain⟨v,hv4,rfl,rfl,HI⟩:=hrel
     by_cases hlt4:v<4
     ·obtain⟨z,hz⟩:∃z,(T.aAa t)[v]? =some z:=⟨_,zAB (by have:=Hp.out.2.1;omega)⟩;obtain⟨z0,z1⟩:=C.aCx Hp.out.1 hz;have hs:=aEp hz;have ht1:=C.aCp (T.aAa t) v (by have:=Hp.out.2.1;omega);have hea:=C.aF4 (T.aAa t) k v (by have:=Hp.out.2.1;omega);have hgd:(T.aAa t).getD v 0=z:=by rw[List.getD,hz];rfl
      rw[hgd]at ht1 hea;obtain⟨K,hK⟩:∃K,C.total ((T.aAa t).take v)=K:=⟨_,rfl⟩;obtain⟨m,rfl⟩:∃m:Nat,z=m:=⟨z.toNat,by omega⟩;rw[hK,zBA]at hs ht1 hea;rw[hK];obtain⟨q,hq⟩:∃q,k / 2 ^ K=q:=⟨_,rfl⟩;rw[hq]at hea⊢;have hqk:q<=k:=by rw[<-hq];exact Nat.div_le_self _ _
      have hm16:m<=16:=by have:=Hp.out.2.2.1;omega
      have hc:=(HI.out.1.cell (p:=⟨g,v,none⟩) (gA H3.out.2.1).1).trans (cell_of_row w3 g v _ _ (0,0) H3.out.2.1);rw[zAV,zAW,hz]at hc;have hc:wr.cell? ⟨g,v,none⟩=some (.int .i64 (m:Int)):=hc;have hv3:(v:Int) < 4:=by omega
      have hfz:wr.frozen? ⟨ge,v,none⟩=false:=aCm HI.out.2 _;have hcv:wr.cell? ⟨ge,v,none⟩=some (.int .u32 0):=by rw[cell_of_row _ _ _ _ _ (0,0) HI.out.2,zAV,zAW,aHa _ _ _ hlt4,if_neg (by omega)];rfl
      have Hs:=kH (And.intro hs (And.intro hea hq));clear hs ht1 hK hz hea hgd hq;have hmask:=aZ3 (q:=q) (m:=m) (by omega) hm16;have Hmask:=kH hmask;clear hmask;go_wp2;rw[Hmask.out];go_roundw
      case rel=>
       refine⟨v+1,by omega,by go_num,?_,kH ⟨HI.out.1.setCell (p:=⟨ge,v,none⟩) H4.out.2.2.1 _,?_⟩⟩
       ·rw[Hs.out.1,Nat.pow_add,<-Nat.div_div_eq_div_mul,Hs.out.2.2]
        congr 1
       ·rw[heap_setCell_same wr ge v _ _ _ HI.out.2,<-aO1 t k hlt4,Hs.out.2.1,List.map_set];simp
      case measure=>simp[intOf];omega
     ·obtain rfl:v=4:=by omega
      have hrow:=HI.out.2;rw[aMv]at hrow;have hel:(C.envK (T.aAa t) k).length=4:=by rw[C.aE6];exact Hp.out.2.1
      have hsl:=aGw hrow (by rw[hel];omega);rw[hel]at hsl;have hbw:Below W.heap.size W wr:=H3.out.1.trans (HI.out.1.mono (zBK H3.out.1.size (zBJ _)));have hev:=aZ7 t (C.envK (T.aAa t) k) n ct 4 At (some ⟨ge,0,none⟩) wr (HT.out.below aAh hbw) hsl Hp.out.2.2.2.2.1 (C.aDt Hp.out.1 k) Hsm.out;have hrv:(T.vals t (C.envK (T.aAa t) k)).getD (n-1) 0=C.rv t (C.envK (T.aAa t) k):=by unfold C.rv;rw[Hp.out.2.2.2.2.2]
      rw[hrv]at hev;obtain⟨rvv,hrvv⟩:∃r,C.rv t (C.envK (T.aAa t) k)=r:=⟨_,rfl⟩;rw[hrvv]at hev;have Hev:=kH hev;have Hr:=kH (And.intro hrvv HI.out.1);have hcn:=C.aHk t k;obtain⟨cn,hcn'⟩:∃c,C.cntTo t k=c:=⟨_,rfl⟩;rw[hcn']at hcn⊢;have Hcn:=kH hcn';have hwk:IntKind.i64.wrap ((cn:Int)+1)=((cn+1:Nat):Int):=by rw[IntWalk.i64_in _ (by omega)];omega
      clear hrow hel hsl hbw hev hrv hrvv hcn' HI
      by_cases h1:rvv=1
      ·subst h1
       go_wp2_with fail
       refine Hev.out.mono ?_;rintro e w5 ⟨rfl,hb5⟩;have Hb5:=kH (Hr.out.2.trans (hb5.mono Hr.out.2.size));clear hb5 Hev;go_wp2;go_roundw
       case rel=>exact⟨k+1,by omega,by go_num,by rw[C.cntTo,if_pos Hr.out.1,Hcn.out,Int.natCast_add];rfl,Hb5⟩
       case measure=>simp[intOf];omega
      ·have hq1:(rvv == 1)=false:=by simpa using h1
       have hne:=kH h1
       go_wp2_with fail
       refine Hev.out.mono ?_;rintro e w5 ⟨rfl,hb5⟩;have Hb5:=kH (Hr.out.2.trans (hb5.mono Hr.out.2.size));clear hb5 Hev h1;go_wp2;go_roundw
       case rel=>exact⟨k+1,by omega,by go_num,by rw[C.cntTo,if_neg (by rw[Hr.out.1];exact hne.out),Hcn.out,zBI],Hb5⟩
       case measure=>simp[intOf];omega
   ·obtain rfl:k=p:=by omega
    have hcn:C.cntTo t k=C.cntTo t (C.nEnv t):=by unfold C.nEnv;rw[Hp.out.2.2.2.1]
    rw[hcn];clear hcn hmk;go_wp2;go_ret2;exact⟨rfl,H3.out.1.trans (HL.out.mono H3.out.1.size)⟩
end
section
theorem aUp:aAb lt2=0:=by decide +kernel
end
section
open Go.RowKit
theorem aAt(W:World):Calls prog 11 #[] W fun e W'=>e= .returned (.bool true)/\Below W.heap.size W W':=
 aS0 (fun A X h=>aXu lt2 3 3 A X h (by decide) aUp (by decide)) W
end
section
open Go.RowKit Go.MapKept Go.Maps Go.WideMaps
theorem WdAt.bel{w w':World}{tg:TgF}{A:Option Addr}{c:Nat}{l:List Int}(h:WdAt w tg A c l)(hb:Below w.heap.size w w'):WdAt w' tg A c l:=⟨h.1.below hb h.1.lt,h.2⟩
end
section
open Go.RowKit
theorem aZ9{X:World}{g:Nat}{us:List Value}{T:TypeId}(hr:X.heap[g]? =some (.cells us.toArray T (0,0))):∀j u,us[j]? =some u->∃ad:Addr,(some (⟨g,0,none⟩:Addr))=some ad/\X.cell? (ad.add j)=some u:=fun j u hu=>by
 refine⟨_,rfl,?_⟩;rw[aBl,cell_of_row _ _ _ _ _ (0,0) hr,zBH];simpa using hu
end
section
open Go.RowKit Go.MapKept Go.Maps Go.WideMaps
theorem BAt.reads{w:World}{B0 Bb Mb:Nat}{tg:TgF}{vc:Value}{b:C.Bd}(h:BAt w B0 Bb Mb tg vc b):∃A cap,vc= .slice A b.cls.length cap/\SlAt (SlR (IntR .i64)) w A b.cls.length b.cls:=by
 obtain⟨us,c1,c2⟩:=h.cl;refine aMq c1.1 (by have:=c2.1;simpa using this) fun k c hc=>?_
 obtain⟨u,hu,ho,_⟩:=c2.2 k (siv c) (by rw[zAW,hc];rfl);rw[aBu]at ho;exact⟨u,hu,ho⟩
end
section
open Go.RowKit Go.MapKept Go.Maps Go.WideMaps
theorem aGp{fn:Func}{t u v x y:Tmp}(h:fn.results= #[.tmp t, .tmp u, .tmp v, .tmp x, .tmp y])(tmps:Array Value)(P:Program)(w:World):
 (results fn tmps).run P w= .ok (.tuple #[tmps.getD t undef,tmps.getD u undef,tmps.getD v undef,tmps.getD x undef,tmps.getD y undef]) w:=by
 simp[results,h]
theorem bFs{w:World}{T T':TypeId}{s s' n m:Nat}{v u:Value}{xs ys:List Value}(hT:T≠T')(h:OwnAt w T s v n xs)(k:OwnAt w T' s' u m ys){g:Nat}(e1:v.ownBlock=some g)(e2:u.ownBlock=some g):False:=by
 rcases h.2 with⟨q,_⟩ |⟨g1,o1,c1,cur1,q,hc1,_⟩
 ·rw[q]at e1;cases e1
 ·rcases k.2 with⟨r,_⟩ |⟨g2,o2,c2,cur2,r,hc2,_⟩
  ·rw[r]at e2;cases e2
  ·rw[q]at e1;rw[r]at e2;have e1:g1=g:=by simpa[Value.ownBlock]using e1
   have e2:g2=g:=by simpa[Value.ownBlock]using e2
   subst e1 e2;rw[hc1]at hc2;injection hc2 with hc2
   injection hc2 with _ h3 _
   exact hT h3
structure ClI(w2 wr:World)(vars:List (List Int))(v:Nat)(vv:Value)(us:List Value):Prop where
 bl:Below w2.heap.size w2 wr
 own:OwnAt wr 37 1 vv v us
 len:us.length=v
 fr:∀g,vv.ownBlock=some g->w2.heap.size<=g
 el:∀(i:Nat) (l:List Int),i<v->vars[i]? =some l->∃u:Value,us[i]? =some u/\OwnAt wr 3 1 u l.length (siv l)
theorem ClI.step{w2 wr w3 w5:World}{vars:List (List Int)}{v:Nat}{vv v':Value}{us:List Value}{l:List Int}{u:Value}(h:ClI w2 wr vars v vv us)(hl:vars[v]? =some l)
 (hb:Below wr.heap.size wr w3) (hu:OwnAt w3 3 1 u l.length (siv l)) (hown:OwnAt w5 37 1 v' (v+1) (us ++ [u]))
 (hg:(w3.alloc (.cells #[u] 37)).grownBy w5 vv.ownBlock) (hat:v'.ownBlock=vv.ownBlock\/v'.ownBlock=some (w3.alloc (.cells #[u] 37)).heap.size):ClI w2 w5 vars (v+1) v' (us ++ [u]):=by
 have hb4:Below w2.heap.size w2 (w3.alloc (.cells #[u] 37)):=(h.bl.trans (hb.mono h.bl.size)).alloc (zBK h.bl.size hb.size) _;have hw3:∀g,g<w3.heap.size->(w3.alloc (.cells #[u] 37)).heap[g]? =w3.heap[g]? :=fun g hg=>Below.heap_alloc w3 _ _ hg
 have hov:OwnAt w3 37 1 vv v us:=h.own.below hb h.own.lt;have hkeep:∀{x:Value} {m:List Int},OwnAt w3 3 1 x m.length (siv m)->OwnAt w5 3 1 x m.length (siv m):=fun{x m} hx=>hx.same fun g hgx=>by
  have hlt:=hx.lt g hgx;refine(hg.block g (by rw[World.size_alloc];omega) (fun e=>?_)).trans (hw3 g hlt);exact bFs (by decide) hov hx e.symm hgx
 refine⟨hb4.grown hg hb4.size h.fr,hown,by simp[h.len],fun g hg'=>?_,fun i m hi hm=>?_⟩
 ·rcases hat with q | q
  ·exact h.fr g (q.symm.trans hg')
  ·rw[q]at hg';cases hg';exact hb4.size
 ·rcases Nat.lt_or_ge i v with hlt | hge
  ·obtain⟨x,h1,h2⟩:=h.el i m hlt hm;exact⟨x,by rw[zAE (by rw[h.len];exact hlt)];exact h1,hkeep (h2.below hb h2.lt)⟩
  ·obtain rfl:i=v:=by omega
   rw[hl]at hm;obtain rfl:=zAH hm;exact⟨u,by rw[zAF (by rw[h.len];exact zBJ _),h.len,zBG];rfl,hkeep hu⟩
theorem bEj(a b c d:Value)(w:World):(Instr.index 70 (.agg #[a,b,c,d]) (.int .i64 ((0:Nat):Int))).run prog w= .ok a w:=by kernel_rfl
theorem bEk(a b c d:Value)(w:World):(Instr.index 70 (.agg #[a,b,c,d]) (.int .i64 ((1:Nat):Int))).run prog w= .ok b w:=by kernel_rfl
theorem bEl(a b c d:Value)(w:World):(Instr.index 70 (.agg #[a,b,c,d]) (.int .i64 ((2:Nat):Int))).run prog w= .ok c w:=by kernel_rfl
theorem bEm(a b c d:Value)(w:World):(Instr.index 70 (.agg #[a,b,c,d]) (.int .i64 ((3:Nat):Int))).run prog w= .ok d w:=by kernel_rfl
def bC8(t:List T.Nd)(W:World)(e:Ending)(w':World):Prop:=
 Below W.heap.size W w'/\((T.valid true t≠0/\e= .returned (.tuple #[.int .i64 0, .slice none 0 0, .slice none 0 0, .int .i64 0, .int .i64 (T.valid true t)]))\/
  (T.valid true t=0/\C.build t=none/\e= .returned (.tuple #[.int .i64 0, .slice none 0 0, .slice none 0 0, .int .i64 0, .int .i64 3]))\/
  (T.valid true t=0/\∃c A cap A' cap',C.build t=some c/\C.Bo c.b/\e= .returned (.tuple #[.int .i64 (c.b.n:Int), .slice A c.b.cls.length cap, .slice A' 4 cap', .int .i64 c.root, .int .i64 0])/\
   SlAt (SlR (IntR .i64)) w' A c.b.cls.length c.b.cls/\SlAt (SlR (IntR .i64)) w' A' 4 (C.aAj (T.aAa t) 0)))
theorem aL3(t:List T.Nd)(n ct:Nat)(At:Option Addr)(W:World)(hT:StAt 5 NdR W At n t):
 Calls prog 20 #[.slice At n ct] W (bC8 t W):=by
 have HVl:=kH (aEz t n ct At W hT);have Hi:=kH (aBq hT);have HB:=kH (fun(h:T.valid true t=0) X (hX:Below W.heap.size W X)=>aN3 t n ct At X (hT.below aAh hX) h);obtain⟨ve,hve⟩:∃c,T.valid true t=c:=⟨_,rfl⟩;rw[hve]at HVl;have Hve:=kH hve;clear hT hve
 by_cases h0:ve=0
 ·subst h0
  go_enter func20,ntmps20
  go_wp2_with fail
  refine HVl.out.mono ?_;rintro e w1 ⟨rfl,hb1⟩;have HBk:=kH (HB.out Hve.out w1 hb1);have Hb1:=kH hb1;clear hb1 HVl HB
  go_wp2_with fail
  refine HBk.out.mono ?_;rintro e w2 ⟨hb2,⟨hbn,rfl⟩ |⟨c,Cb,Bb,Mb,Wb,tg,vc,words,hbs,rfl,b2,hct,hC2⟩⟩
  ·have Hf:=kH (And.intro (Hb1.out.trans (hb2.mono Hb1.out.size)) hbn);clear hb2 hbn HBk;go_wp2;refine bodyPost_ret (aGp rfl _ _ _) rfl ?_;exact⟨Hf.out.1, .inr (.inl ⟨Hve.out,Hf.out.2,rfl⟩)⟩
  ·obtain⟨Ac,cc,rfl,hcl⟩:=b2.reads;have htm:=(C.tm_of Hve.out Hi.out).1;have hsy:=C.aIm htm (C.tm_of Hve.out Hi.out).2 hbs;have hwl:=T.aA9 t;obtain⟨rt,hrt⟩:∃r,c.root=r:=⟨_,rfl⟩;obtain⟨n0,hn0⟩:∃m,c.b.n=m:=⟨_,rfl⟩;obtain⟨m0,hm0⟩:∃m,c.b.cls.length=m:=⟨_,rfl⟩;have hn4:n0<=4000:=by rw[<-hn0];exact b2.bo.n
   have q0:=hct.cb.2.2;have q1:=b2.c0;have q2:=b2.c1;rw[hsy.vars]at hct;rw[hn0]at q1;rw[hm0]at q2;rw[hrt];have HS0:=kH (And.intro q0 (And.intro q1 q2));have Hk:=kH (And.intro (Hb1.out.trans (hb2.mono Hb1.out.size)) (And.intro hct (And.intro hcl (And.intro hbs (And.intro b2.bo (And.intro hrt (And.intro hn0 hm0)))))));have HBl:=kH (And.intro hct.ltC (b2.lt Bb _ b2.st.2).2);have hvl:(C.aAj (T.aAa t) 0).length=4:=by rw[C.aCc];exact hwl
   have hV:∀v,v<4->∃A c,w2.cell? ⟨Cb,1+v,none⟩=some (.slice A ((C.aAj (T.aAa t) 0).getD v []).length c)/\WdAt w2 tg A c ((C.aAj (T.aAa t) 0).getD v []):=fun v hv=>hct.var (by rw[List.getD,zAB (by omega)];rfl)
   have hsm:∀v,v<4->((C.aAj (T.aAa t) 0).getD v []).length<=32:=fun v hv=>by
    have h1:=C.aC6 (T.aAa t) 0 v (by omega);rw[h1];have h2:=C.aCx htm (zAB (show v<(T.aAa t).length by omega));have h3:(T.aAa t).getD v 0=(T.aAa t)[v]'(by omega):=by rw[List.getD,zAB (by omega)];rfl
    rw[h3];simp only[C.aAz,zAY,List.length_range];omega
   obtain⟨A0,c0,e0,d0⟩:=hV 0 (by omega);obtain⟨A1,c1,e1,d1⟩:=hV 1 (by omega);obtain⟨A2',c2',e2,d2⟩:=hV 2 (by omega);obtain⟨A3,c3,e3,d3⟩:=hV 3 (by omega);obtain⟨L0,hL0⟩:∃L,((C.aAj (T.aAa t) 0).getD 0 []).length=L:=⟨_,rfl⟩;obtain⟨L1,hL1⟩:∃L,((C.aAj (T.aAa t) 0).getD 1 []).length=L:=⟨_,rfl⟩;obtain⟨L2,hL2⟩:∃L,((C.aAj (T.aAa t) 0).getD 2 []).length=L:=⟨_,rfl⟩;obtain⟨L3,hL3⟩:∃L,((C.aAj (T.aAa t) 0).getD 3 []).length=L:=⟨_,rfl⟩;rw[hL0]at e0;rw[hL1]at e1;rw[hL2]at e2;rw[hL3]at e3;have e0:w2.cell? ⟨Cb,1,none⟩=_:=e0;have e1:w2.cell? ⟨Cb,2,none⟩=_:=e1;have e2:w2.cell? ⟨Cb,3,none⟩=_:=e2;have e3:w2.cell? ⟨Cb,4,none⟩=_:=e3;obtain⟨ag,hag⟩:∃ag:Array Value,ag= #[.slice A0 L0 c0, .slice A1 L1 c1, .slice A2' L2 c2', .slice A3 L3 c3]:=⟨_,rfl⟩;have HV:=kH (show∀v:Nat,v<4->∃A c,(∀X,(Instr.index 70 (.agg ag) (.int .i64 (v:Int))).run prog X= .ok (.slice A ((C.aAj (T.aAa t) 0).getD v []).length c) X)/\WdAt w2 tg A c ((C.aAj (T.aAa t) 0).getD v [])from by
    intro v hv;rcases(show v=0\/v=1\/v=2\/v=3 by omega)with rfl | rfl | rfl | rfl
    ·exact⟨A0,c0,fun X=>by rw[hag,hL0];exact bEj _ _ _ _ X,d0⟩
    ·exact⟨A1,c1,fun X=>by rw[hag,hL1];exact bEk _ _ _ _ X,d1⟩
    ·exact⟨A2',c2',fun X=>by rw[hag,hL2];exact bEl _ _ _ _ X,d2⟩
    ·exact⟨A3,c3,fun X=>by rw[hag,hL3];exact bEm _ _ _ _ X,d3⟩)
   have H3:=kH (And.intro hsm hvl);clear hV d0 d1 d2 d3 hL0 hL1 hL2 hL3 hsm hvl htm hsy hwl hcl hct b2 hb2 hC2 hrt hn0 hm0 hbs q0 q1 q2 HBk
   go_upto_region 9 with(fail)
   rw[<-hag];clear e0 e1 e2 e3 hag
   go_loopw [32,11] (fun s32 s11 wr=>∃v:Nat,v<=4/\s32= .int .i64 (v:Int)/\∃Av cv us,s11= .slice Av v cv/\Hid (ClI w2 wr (C.aAj (T.aAa t) 0) v (.slice Av v cv) us)) (fun s _ _=>4- (intOf s).toNat)
   case atStart=>exact⟨0,by omega,rfl,none,0, [],rfl,kH ⟨Below.refl _ _,OwnAt.nil_ _ _ _,rfl,(fun g hg=>by simp[Value.ownBlock]at hg),(fun i l hi=>by omega)⟩⟩
   case round=>
    obtain⟨v,hv4,rfl,As,cs,us,rfl,HL⟩:=hrel
    by_cases hlt:v<4
    ·obtain⟨Av,cv,hix,hwd⟩:=HV.out v hlt;have hl32:=H3.out.1 v hlt;have hvv:(C.aAj (T.aAa t) 0)[v]? =some ((C.aAj (T.aAa t) 0).getD v []):=by rw[List.getD,zAB (by have:=H3.out.2;omega)];rfl
     have Hcl:=kH (aDl (hwd.bel HL.out.bl) (by omega));obtain⟨L,hL⟩:∃L,((C.aAj (T.aAa t) 0).getD v []).length=L:=⟨_,rfl⟩;have Hq:=kH (And.intro hL hvv);rw[hL]at hix Hcl;have hv3:(v:Int) < 4:=by omega
     clear hwd hl32 hL hvv
     go_wp2_with fail
     refine Hcl.out.mono ?_;rintro e w3 ⟨A4,c4,rfl,k2,k1,k3⟩;rw[Hq.out.1]at k1;rw[Hq.out.1];have Hk1:=kH (And.intro k1 k2);have hov:OwnAt w3 37 1 (.slice As v cs) v us:=HL.out.own.below k2 HL.out.own.lt;have Hov:=kH (hov.alloc (.cells #[.slice A4 L c4] 37));clear hov k1 k2 k3 Hcl;have hnew:(w3.alloc (.cells #[.slice A4 L c4] 37)).cell? ⟨w3.heap.size,0,none⟩=some (.slice A4 L c4):=by rw[cell_of_row _ _ _ _ _ (0,0) (heap_alloc_new w3 _)];rfl
     have Hnew:=kH hnew;clear hnew
     go_wp2_with (at_builtin;refine aBv _ rfl (.tmp 35) (.tmp 38) 25 rfl 37 (.slice none 0 0) 1 24 underlying25 Tryz.sinfoInts rfl (by omega) (.slice As v cs) v us rfl Hov.out (some ⟨w3.heap.size,0,none⟩) 1 1 [.slice A4 L c4] rfl rfl (fun j u hu=>by
      have hj:j=0:=by have:=(zAA.1 hu).1;simp at this;exact this
      subst hj;obtain rfl:=zAH hu;exact⟨_,rfl,Hnew.out⟩) (fun u hu=>by rw[zBD.1 hu];rfl) (by omega) (by omega) ?_;intro v' w5 hown hgr hat)
     have hCl:=HL.out.step Hq.out.2 Hk1.out.2 (by rw[Hq.out.1];exact Hk1.out.1) hown hgr hat;obtain⟨A5,c5,rfl⟩:=hown.form;have HCl:=kH hCl;clear hown hgr hat hCl;go_wp2;go_roundw
     case rel=>exact⟨v+1,by omega,by go_num,A5,c5,us ++ [.slice A4 L c4],rfl,HCl⟩
     case measure=>simp[intOf];omega
    ·obtain rfl:v=4:=by omega
     have hb:=HL.out.bl;have f0:=(hb.cell (p:=⟨Cb,0,none⟩) HBl.out.1).trans HS0.out.1;have f1:=(hb.cell (p:=⟨Bb,0,none⟩) HBl.out.2).trans HS0.out.2.1;have f2:=(hb.cell (p:=⟨Bb,1,none⟩) HBl.out.2).trans HS0.out.2.2;have Hb:=kH hb;clear hb
     go_upto_region 13 with(fail)
     go_quiet (fail)
     go_wp2;refine bodyPost_ret (aGp rfl _ _ _) rfl ?_;obtain⟨A6,c6,e6,hsl⟩:=aMq (cs:=C.aAj (T.aAa t) 0) (by rw[H3.out.2];exact HL.out.own) (by rw[HL.out.len,H3.out.2]) (fun k l hk=>HL.out.el k l (by have:=(zAA.1 hk).1;have:=H3.out.2;omega) hk);rw[H3.out.2]at e6 hsl;injection e6 with e7 _ e8
     subst e7 e8;have hdn:∀q,Below w2.heap.size w2 (wr.drewN q):=fun q=>Hb.out.trans ⟨rfl,rfl,rfl,zBJ _,fun _ _=>rfl⟩
     have hcls:=fun q=>Hk.out.2.2.1.below aCd (hdn q)
     exact⟨Hk.out.1.trans ((hdn _).mono Hk.out.1.size), .inr (.inr ⟨Hve.out,c,Ac,cc,As,cs,Hk.out.2.2.2.1,Hk.out.2.2.2.2.1,by rw[Hk.out.2.2.2.2.2.1,Hk.out.2.2.2.2.2.2.1,Hk.out.2.2.2.2.2.2.2];rfl,hcls _,hsl⟩)⟩
 ·have hq:(ve == 0)=false:=by simpa using h0
  have hq2:(ve != 0)=true:=by simpa using h0
  have Hne:=kH h0;clear h0
  go_enter func20,ntmps20
  go_wp2_with fail
  refine HVl.out.mono ?_;rintro e w1 ⟨rfl,hb1⟩;have Hb1:=kH hb1;clear hb1 HVl HB;go_wp2;refine bodyPost_ret (aGp rfl _ _ _) rfl ?_;exact⟨Hb1.out, .inl ⟨by rw[Hve.out];exact Hne.out,by rw[Hve.out];rfl⟩⟩
end
section
open Go.RowKit
theorem aUw{n:Int}{cs l:List (List Int)}(h:(S.check n cs l).2=0):(∀k∈l,S.isClause n k=true)/\S.aBg cs l=none/\(S.check n cs l).1=(l.length:Int):=by
 unfold S.check at h⊢
 by_cases h1:S.aAe n cs≠0
 ·rw[if_pos h1]at h;exact absurd h h1
 ·rw[if_neg h1]at h⊢
  by_cases h2:S.aAe n l≠0
  ·rw[if_pos h2]at h;exact absurd h h2
  ·rw[if_neg h2]at h⊢;have h3:S.aAe n l=0:=by omega
   have h4:∀k∈l,S.isClause n k=true:=by
    unfold S.aAe at h3;split at h3
    ·cases h3
    ·split at h3
     ·rename_i _ q;exact zAD.1 q
     ·cases h3
   cases hf:S.aBg cs l with
   | none=>rw[hf]at h;exact⟨h4,rfl,rfl⟩
   | some k=>rw[hf]at h;cases h
theorem bAm{w:World}{T:TypeId}{v:Value}{m:Nat}{us:List Value}(h:OwnAt w T 1 v (0+m) ([]++ us)):OwnAt w T 1 v m us:=by rw[zBH]at h;exact h
theorem bFt{w4:World}{A:Option Addr}{m:Nat}{us:List Value}{cs:List (List Int)}{T:TypeId}(hA:SlAt (SlR (IntR .i64)) w4 A m cs)(hu:∀j u,us[j]? =some u->∃ad:Addr,A=some ad/\w4.cell? (ad.add j)=some u):∀j u,us[j]? =some u->∃ad:Addr,A=some ad/\(w4.alloc (.cells #[] T)).cell? (ad.add j)=some u:=fun j u h=>by
 obtain⟨ad,h1,h2⟩:=hu j u h;refine⟨ad,h1,?_⟩;have hlt:(ad.add j).block<w4.heap.size:=by
  apply zAI;intro hn;unfold World.cell? at h2;rw[Array.getElem?_eq_none (by omega)]at h2;cases h2
 exact(((Below.refl w4.heap.size w4).alloc (zBJ _) _).cell (p:=ad.add j) hlt).trans h2
theorem aX4{w:World}{A:Option Addr}{m c:Nat}{us:List Value}{xs:List (List Int)}{g:Nat}{z:Int}(hm:xs.length=m)(h:OwnAt w 37 1 (.slice A (m+1) c) (m+1) (us ++ [.slice (some ⟨g,0,none⟩) 1 1]))(hu:∀(k:Nat) (c:List Int) (u:Value),xs[k]? =some c->us[k]? =some u->SlR (IntR .i64) w u c)(hr:w.heap[g]? =some (.cells #[.int .i64 z] 3 (0,0))):SlAt (SlR (IntR .i64)) w A (m+1) (xs ++ [[z]]):=by
 have hl:=h.1;have hl2:us.length=m:=by simp at hl;omega
 refine h.slAt (by simp[hm,hl2]) fun k x u hx hu2=>?_
 rcases Nat.lt_or_ge k m with hk | hk
 ·rw[zAE (by omega)]at hx hu2;exact hu k x u hx hu2
 ·have hk2:=(zAA.1 hx).1;obtain rfl:k=m:=by simp at hk2;omega
  rw[zAF (by omega),hm,zBG]at hx;rw[zAF (by omega),hl2,zBG]at hu2;cases hx;cases hu2;exact⟨_,_,rfl,aFk (l:= [z]) hr (by simp)⟩
theorem aOc(t:List T.Nd)(l:List (List Int))(n ct p d:Nat)(At D:Option Addr)(W:World)(hT:StAt 5 NdR W At n t)(hD:SlAt (SlR (IntR .i64)) W D p l):
 Calls prog 6 #[.slice At n ct, .slice D p d] W fun e W'=>e= .returned (.bool true)/\Below W.heap.size W W':=by
 have HT:=kH hT;have HD:=kH hD;have Hi:=kH (aBq hT);have HL:=kH (aFj t n ct At W hT);have HRC:=kH (fun X (hX:Below W.heap.size W X)=>aEc t n ct At X (hT.below aAh hX));have HIV:=kH (fun X (hX:Below W.heap.size W X)=>aKw t n ct At X (hT.below aAh hX));have HCL:=kH (fun X (hX:Below W.heap.size W X)=>aL3 t n ct At X (hT.below aAh hX));have hlp:=hD.len;have hle:=hD.le;obtain⟨iv,hiv⟩:∃x,(aCe t).1=x:=⟨_,rfl⟩;obtain⟨ie,hie⟩:∃x,(aCe t).2=x:=⟨_,rfl⟩;obtain⟨ce,hce⟩:∃x,aAb t=x:=⟨_,rfl⟩;have Hiv:=kH (And.intro hiv (And.intro hie hce));rw[hiv,hie]at HIV;rw[hce]at HRC;have Hlp:=kH hlp;clear hT hD hiv hie hce hlp
 go_enter func6,ntmps6
 go_wp2_with fail
 refine HL.out.mono ?_;rintro e w1 ⟨hb1,rfl |⟨rfl,_⟩⟩
 ·have Hb1:=kH hb1;clear hb1 HL;have HKn:=kH (aAt w1)
  go_wp2_with fail
  refine HKn.out.mono ?_;rintro e wk ⟨rfl,hbk⟩;have Hbk:=kH (Hb1.out.trans (hbk.mono Hb1.out.size));clear hbk HKn;go_wp2;go_ret;exact⟨rfl,Hbk.out⟩
 ·have Hb1:=kH hb1;clear hb1 HL
  by_cases h40:40<p
  case pos=>
   have hq:(40:Int) <(p:Int):=by omega
   have hq2:decide ((40:Int) <(p:Int))=true:=by simpa using hq
   have HKn:=kH (aAt w1)
   go_wp2_with fail
   refine HKn.out.mono ?_;rintro e wk ⟨rfl,hbk⟩;have Hbk:=kH (Hb1.out.trans (hbk.mono Hb1.out.size));clear hbk HKn;go_wp2;go_ret;exact⟨rfl,Hbk.out⟩
  case neg=>
  have hq:¬(40:Int) <(p:Int):=by omega
  have hq2:decide ((40:Int) <(p:Int))=false:=by simpa using hq
  have HD1:=kH (HD.out.below aCd Hb1.out);have H40:=kH h40;clear h40
  go_upto_region 4 with(fail)
  clear hq hq2
  go_loopw [5] (fun s5 wr=>∃j:Nat,j<=p/\s5= .int .i64 (j:Int)/\wr=w1/\Hid (∀k c,k<j->l[k]? =some c->c.length<=20)) (fun s _=>p- (intOf s).toNat)
  case atStart=>exact⟨0,zBL _,rfl,rfl,kH fun k c hk=>by omega⟩
  case round=>
   obtain⟨j,hj,rfl,rfl,HJ⟩:=hrel
   by_cases hlt:j<p
   ·obtain⟨c,be,offe,ue,hc,rfl,hbe,hce,A1,c1,hue,hs1⟩:=HD1.out.at_ hlt;subst hue;have hjp:(j:Int) <(p:Int):=by omega
    have Hc:=kH hc;obtain⟨cl,hcl⟩:∃m,c.length=m:=⟨_,rfl⟩;have Hcl:=kH hcl;rw[hcl]at hce;clear hc hbe hs1 hcl
    by_cases h20:20<cl
    ·have hq:(20:Int) <(cl:Int):=by omega
     have hq2:decide ((20:Int) <(cl:Int))=true:=by simpa using hq
     have HKn:=kH (aAt wr)
     go_wp2_with fail
     refine HKn.out.mono ?_;rintro e wk ⟨rfl,hbk⟩;have Hbk:=kH (Hb1.out.trans (hbk.mono Hb1.out.size));clear hbk HKn;go_wp2;go_ret;exact⟨rfl,Hbk.out⟩
    ·have hq:¬(20:Int) <(cl:Int):=by omega
     have hq2:decide ((20:Int) <(cl:Int))=false:=by simpa using hq
     have H20:=kH h20;clear h20;go_wp2;go_roundw
     case rel=>
      refine⟨j+1,by omega,by go_num,trivial,kH fun k c' hk hc'=>?_⟩
      by_cases e:k=j
      ·subst e;rw[Hc.out]at hc';cases hc';rw[Hcl.out];have:=H20.out;omega
      ·exact HJ.out k c' (by omega) hc'
     case measure=>simp[intOf];omega
   ·obtain rfl:j=p:=by omega
    have htl:tot l<=20000000:=by
     have h1:=aJd (l:=l) (n:=20) (fun k hk=>by
      obtain⟨i,hi⟩:=zAG hk;exact HJ.out i k (by have:=(zAA.1 hi).1;rw[Hlp.out]at this;exact this) hi)
     have h2:=H40.out;rw[Hlp.out]at h1;omega
    have Hl20:=kH (show∀x∈l,x.length<=100000000 from fun k hk=>by
     obtain⟨i,hi⟩:=zAG hk;have:=HJ.out i k (by have:=(zAA.1 hi).1;rw[Hlp.out]at this;exact this) hi;omega)
    have HK:=kH (aGx t n ct At wr (HT.out.below aAh Hb1.out) D j d l HD1.out htl);obtain⟨ck,hck⟩:∃x,aB5 t l=x:=⟨_,rfl⟩;have Hck:=kH hck;rw[hck]at HK;clear htl hck HJ hlt
    go_wp2_with fail
    refine HK.out.mono ?_;rintro e w2 ⟨hb2,rfl⟩;have hb2':=Hb1.out.trans (hb2.mono Hb1.out.size);have HRk:=kH (HRC.out w2 hb2');have Hb2:=kH hb2';clear hb2 hb2' HK HRC
    go_wp2_with fail
    refine HRk.out.mono ?_;rintro e w3 ⟨rfl,hb3⟩;have hb3':=Hb2.out.trans (hb3.mono Hb2.out.size);have Hb3:=kH hb3';have HCk:=kH (HCL.out w3 hb3');clear hb3 hb3' HRk
    by_cases h0:ce=0
    case neg=>
     obtain rfl:ck=ce:=by rw[<-Hck.out,<-Hiv.out.2.2];unfold aB5;rw[if_pos (by rw[Hiv.out.2.2];exact h0)]
     have hq:(ck == 0)=false:=by simpa using h0
     have hq2:(ck != 0)=true:=by simpa using h0
     clear h0;have HKn:=kH (aAt w3)
     go_wp2_with fail
     refine HKn.out.mono ?_;rintro e wk ⟨rfl,hbk⟩;have Hbk:=kH (Hb3.out.trans (hbk.mono Hb3.out.size));clear hbk HKn;go_wp2;go_ret;exact⟨rfl,Hbk.out⟩
    case pos=>
    subst h0
    go_wp2_with fail
    refine HCk.out.mono ?_;rintro e w4 ⟨hb4,⟨hno,_⟩ |⟨_,hbn,rfl⟩ |⟨_,c,A,cap,A',cap',hbs,hB,rfl,hA,_⟩⟩
    ·exact absurd (aBa Hiv.out.2.2).1 hno
    ·have Hb4:=kH (Hb3.out.trans (hb4.mono Hb3.out.size));obtain rfl:ck=3:=by rw[<-Hck.out];unfold aB5;rw[if_neg (by simp[Hiv.out.2.2]),hbn]
     clear hb4 HCk hbn;have HKn:=kH (aAt w4)
     go_wp2_with fail
     refine HKn.out.mono ?_;rintro e wk ⟨rfl,hbk⟩;have Hbk:=kH (Hb4.out.trans (hbk.mono Hb4.out.size));clear hbk HKn;go_wp2;go_ret;exact⟨rfl,Hbk.out⟩
    have hb4':=Hb3.out.trans (hb4.mono Hb3.out.size);have Hb4:=kH hb4';have hce2:ck=(S.check c.b.n (C.aAl c (-1)) l).2:=by rw[<-Hck.out];unfold aB5;rw[if_neg (by simp[Hiv.out.2.2]),hbs]
    obtain⟨k9,hk9⟩:∃x,(S.check c.b.n (C.aAl c (-1)) l).1=x:=⟨_,rfl⟩;have hok:ck=0->k9=(j:Int)/\(ie=0->iv=true):=fun h=>by
     rw[hce2]at h;obtain⟨q1,q2,q3⟩:=aUw h;refine⟨by rw[<-hk9,q3,Hlp.out],fun h2=>?_⟩;have hval:=aH7 (l:=l) Hiv.out.2.2 Hi.out hbs q2 q1;have h3:=aGd (t:=t) (by rw[Hiv.out.2.1];exact h2);have h4:=Hiv.out.1;rw[h3]at h4;rw[<-h4];exact zBO hval
    have Hok:=kH hok;obtain⟨m,hm⟩:∃m,c.b.cls.length=m:=⟨_,rfl⟩;obtain⟨N,hN⟩:∃x:Int,((c.b.n:Nat):Int)=x:=⟨_,rfl⟩;obtain⟨rt,hrt⟩:∃x,c.root=x:=⟨_,rfl⟩;have hm2:m<=24000:=by rw[<-hm];exact Nat.le_succ_of_le hB.c
    have hrb:IntKind.i64.wrap (-rt)= -rt:=by
     have h1:=(aFi Hiv.out.2.2 Hi.out hbs).r1;have h2:=(aFi Hiv.out.2.2 Hi.out hbs).rn;have h3:=hB.n;rw[hrt]at h1 h2;rw[IntWalk.i64_in _ (by omega)]
    have HA:=kH hA;rw[hm]at HA;have Hcs:=kH (show C.aAl c (-1)=c.b.cls ++ [[-rt]]from by unfold C.aAl;rw[hrt,show(-1:Int)*rt= -rt by omega]);have Hcr:=kH (And.intro hce2 (And.intro hk9 hN));rw[hm,hN,hrt];clear hb4 hb4' HCk hA hbs hB hok hce2 hk9 hN hrt;obtain⟨us,hul,hucell,huR⟩:=HA.out.cells;have Hu:=kH (And.intro hul (And.intro hucell huR));have Hm:=kH hm;clear hul hucell huR hm;have Hrb:=kH hrb;have h1:∀u∈us,u.oneCell'=true:=fun u hu=>by
     obtain⟨k,hk⟩:=zAG hu;have hk2:=(zAA.1 hk).1;obtain⟨Au,cu,e,_⟩:=Hu.out.2.2 k _ u (zAB (show k<c.b.cls.length by rw[Hm.out,<-Hu.out.1];exact hk2)) hk;rw[e];rfl
    have H1:=kH h1;clear h1
    go_wp2_with (first
     |(at_builtin;refine aBv _ rfl (.tmp 69) (.tmp 70) 25 rfl 37 (.slice none 0 0) 1 24 underlying25 Tryz.sinfoInts rfl (by decide) (.slice (some ⟨w4.heap.size,0,none⟩) 0 0) 0 [] rfl (aHo w4 37 1) A m cap us rfl ?c1 ?c2 H1.out (by omega) (by decide) ?_;(case c1=>rw[Hu.out.1];omega);(case c2=>exact bFt HA.out Hu.out.2.1);intro v1 w5 hown hgr hat;have hown:=bAm hown;have hbb:=aHs (w0:=w4) (B:=w4.heap.size) (al0) (by simp) (fun g h=>by simp[Value.ownBlock]at h;omega) hgr hat;obtain⟨A1,c1,rfl⟩:=hown.form;have Hown:=kH (And.intro hown hbb);clear hown hgr hat hbb)
     |(at_builtin;refine aBv _ rfl (.tmp 71) (.tmp 75) 25 rfl 37 (.slice none 0 0) 1 24 underlying25 Tryz.sinfoInts rfl (by decide) _ m us rfl ?d1 (some ⟨w5.heap.size+1,0,none⟩) 1 1 [.slice (some ⟨w5.heap.size,0,none⟩) 1 1] rfl rfl ?d2 ?d3 (by omega) (by decide) ?_;(case d1=>exact Hown.out.1.below ((al0).alloc (by simp) _) Hown.out.1.lt);(case d2=>exact aZ9 (aC2 w5 _ _));(case d3=>exact fun u hu=>by rw[zBD.1 hu];rfl);intro v2 w6 hown hgr hat;have hbb:=aHs (w0:=w4) (B:=w4.heap.size) ((Hown.out.2.1.alloc Hown.out.2.1.size _).alloc (by have:=Hown.out.2.1.size;simp;omega) _) (by have:=Hown.out.2.1.size;simp;omega) Hown.out.2.2 hgr hat;have hrow:=(hgr.block w5.heap.size (by simp;omega) (fun h=>by have:=Hown.out.1.lt _ h.symm;omega)).trans (aA1 (heap_alloc_new w5 _) _);obtain⟨A2,c2,rfl⟩:=hown.form;have Hown2:=kH (And.intro hown (And.intro hbb.1 hrow));clear hown hgr hat hbb hrow))
    have HA6:=kH (show SlAt (SlR (IntR .i64)) w6 A2 (m+1) (C.aAl c (-1))from by
     rw[Hcs.out];exact aX4 (xs:=c.b.cls) Hm.out Hown2.out.1 (fun k c' u hc' hu=>aCd _ _ _ _ Hown2.out.2.1 (Hu.out.2.2 k c' u hc' hu)) Hown2.out.2.2)
    have Hb6:=kH (Hb4.out.trans (Hown2.out.2.1.mono Hb4.out.size));have HK:=kH (aQu N A2 D (m+1) c2 j d (C.aAl c (-1)) l w6 HA6.out (HD.out.below aCd Hb6.out) Hl20.out);unfold aQ6 at HK;rw[<-Hcr.out.2.2,<-Hcr.out.1,Hcr.out.2.1]at HK;rw[Hcr.out.2.2]at HK;have HIk:=kH (fun X (hX:Below w6.heap.size w6 X)=>HIV.out X (Hb6.out.trans (hX.mono Hb6.out.size)));clear HIV Hown Hown2 HA6 HA Hu H1 HD1 Hrb
    go_wp2_with fail
    refine HK.out.mono ?_;rintro e w7 ⟨rfl,hb7⟩;have HIk2:=kH (HIk.out w7 hb7);have Hb7:=kH (Hb6.out.trans (hb7.mono Hb6.out.size));clear hb7 HK HIk
    by_cases h0:ck=0
    ·obtain⟨rfl,hiv⟩:=Hok.out h0;have Hv:=kH hiv;subst h0;clear hiv
     go_wp2_with fail
     refine HIk2.out.mono ?_;rintro e w8 ⟨rfl,hb8⟩;have hb8':=Hb7.out.trans (hb8.mono Hb7.out.size);have Hb8:=kH hb8';clear hb8 hb8' HIk2
     by_cases h1:ie=0
     ·obtain rfl:=Hv.out h1;subst h1;have HKn:=kH (aAt w8)
      go_wp2_with fail
      refine HKn.out.mono ?_;rintro e wk ⟨rfl,hbk⟩;have Hbk:=kH (Hb8.out.trans (hbk.mono Hb8.out.size));clear hbk HKn;go_wp2;go_ret;exact⟨rfl,Hbk.out⟩
     ·have hq:(ie == 0)=false:=by simpa using h1
      have hq2:(ie != 0)=true:=by simpa using h1
      clear h1;have HKn:=kH (aAt w8)
      go_wp2_with fail
      refine HKn.out.mono ?_;rintro e wk ⟨rfl,hbk⟩;have Hbk:=kH (Hb8.out.trans (hbk.mono Hb8.out.size));clear hbk HKn;go_wp2;go_ret;exact⟨rfl,Hbk.out⟩
    ·have hq:(ck == 0)=false:=by simpa using h0
     have hq2:(ck != 0)=true:=by simpa using h0
     clear h0
     go_wp2_with fail
     refine HIk2.out.mono ?_;rintro e w8 ⟨rfl,hb8⟩;have hb8':=Hb7.out.trans (hb8.mono Hb7.out.size);have Hb8:=kH hb8';clear hb8 hb8' HIk2;have HKn:=kH (aAt w8)
     go_wp2_with fail
     refine HKn.out.mono ?_;rintro e wk ⟨rfl,hbk⟩;have Hbk:=kH (Hb8.out.trans (hbk.mono Hb8.out.size));clear hbk HKn;go_wp2;go_ret;exact⟨rfl,Hbk.out⟩
end
end Go.Proofs.YtchdbhggbdcapaaGreat
