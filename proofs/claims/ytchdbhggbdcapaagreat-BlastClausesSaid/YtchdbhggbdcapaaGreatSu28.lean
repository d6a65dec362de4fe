/- Part. -/
import Derived.Test.YtchdbhggbdcapaaGreatSuLX
import Derived.Test.YtchdbhggbdcapaaGreatSu21
import Derived.Test.YtchdbhggbdcapaaGreatChecked
import Derived.Test.YtchdbhggbdcapaaGreatProg
import Derived.Test.YtchdbhggbdcapaaGreatSu25
import Derived.Test.YtchdbhggbdcapaaGreatSu26
import Derived.Test.YtchdbhggbdcapaaGreatSu27
set_option linter.unusedVariables false
set_option linter.unusedSimpArgs false
set_option maxRecDepth 100000
set_option maxHeartbeats 16000000
namespace Go.Proofs.YtchdbhggbdcapaaGreat
open _root_.Go.Proofs.Tryz
section
open Go.RowKit Go.MapKept Go.Maps Go.WideMaps
theorem aEp{l:List Int}{v:Nat}{z:Int}(h:l[v]? =some z):C.total (l.take (v+1))=C.total (l.take v)+z.toNat:=by
 rw[List.take_add_one,h];simp[C.total]
theorem bCj(t:List T.Nd)(n ct:Nat)(At:Option Addr)(W:World)(hT:StAt 5 NdR W At n t)(hv:T.valid true t=0):
 Calls prog 39 #[.slice At n ct] W fun e w'=>e= .returned (.int .i64 (C.total (T.aAa t):Int))/\Below W.heap.size W w':=by
 have HW:=kH (aDs t n ct At W hT);have htm:=(C.tm_of hv (aBq hT)).1;have hwl:=T.aA9 t;have hsm:=C.aCt htm;have Hp:=kH (And.intro htm (And.intro hwl hsm));have Hv:=kH hv;clear hT hv htm hwl hsm
 go_enter func39,ntmps39
 go_wp2_with fail
 refine HW.out.mono ?_;rintro e w1 ⟨hb,⟨hno,_⟩ |⟨_,g,rfl,hg,hrow⟩⟩
 ·exact absurd Hv.out hno
 ·have Hrow:=kH (And.intro hrow hb);clear hrow hb HW hg
  go_upto_region 4 with(fail)
  go_loopw [15,5] (fun s15 s5 wr=>∃v:Nat,v<=4/\s15= .int .i64 (v:Int)/\s5= .int .i64 ((C.total ((T.aAa t).take v):Nat):Int)/\wr=w1) (fun s _ _=>4- (intOf s).toNat)
  case atStart=>exact⟨0,by omega,rfl,by simp[C.total],rfl⟩
  case round=>
   obtain⟨v,hv4,rfl,rfl,rfl⟩:=hrel
   by_cases hlt:v<4
   ·obtain⟨z,hz⟩:∃z,(T.aAa t)[v]? =some z:=⟨_,zAB (by have:=Hp.out.2.1;omega)⟩;obtain⟨z0,z1⟩:=C.aCx Hp.out.1 hz;have hs:=aEp hz;have ht1:=C.aCp (T.aAa t) v (by have:=Hp.out.2.1;omega);obtain⟨K,hK⟩:∃K,C.total ((T.aAa t).take v)=K:=⟨_,rfl⟩;obtain⟨m,rfl⟩:∃m:Nat,z=m:=⟨z.toNat,by omega⟩;rw[hK,zBA]at hs;rw[hK];have hKm:K<=128:=by have:=Hp.out.2.2;omega
    have hc:=cell_of_row wr g v _ _ (0,0) Hrow.out.1;rw[zAV,zAW,hz]at hc;have hc:wr.cell? ⟨g,v,none⟩=some (.int .i64 (m:Int)):=hc;have hv3:(v:Int) < 4:=by omega
    have hwk:IntKind.i64.wrap ((K:Int)+(m:Int))=((K+m:Nat):Int):=by rw[IntWalk.i64_in _ (by omega)];omega
    have Hs:=kH hs;clear hs ht1 hK hz;go_wp2;go_roundw
    case rel=>exact⟨v+1,by omega,by go_num,by rw[Hs.out,Int.natCast_add],trivial⟩
    case measure=>simp[intOf];omega
   ·obtain rfl:v=4:=by omega
    have hfull:(T.aAa t).take 4=T.aAa t:=zAK (by have:=Hp.out.2.1;omega);rw[hfull];obtain⟨K,hK⟩:∃K,C.total (T.aAa t)=K:=⟨_,rfl⟩;rw[hK];have HK:=kH hK;clear hK hfull;go_wp2;go_ret;exact⟨by rw[HK.out];rfl,Hrow.out.2⟩
def envsE(t:List T.Nd):Int×Int:=
 if T.valid true t≠0 then(0,T.valid true t)else if 16<C.total (T.aAa t)then(0,3)else(((2 ^ C.total (T.aAa t):Nat):Int),0)
theorem aDm(t:List T.Nd)(n ct:Nat)(At:Option Addr)(W:World)(hT:StAt 5 NdR W At n t):
 Calls prog 16 #[.slice At n ct] W fun e w'=>e= .returned (.tuple #[.int .i64 (envsE t).1, .int .i64 (envsE t).2])/\Below W.heap.size W w':=by
 have HVl:=kH (aEz t n ct At W hT);have HB:=kH (fun(h:T.valid true t=0) X (hX:Below W.heap.size W X)=>bCj t n ct At X (hT.below aAh hX) h);have Hi:=kH (aBq hT);obtain⟨ve,hve⟩:∃c,T.valid true t=c:=⟨_,rfl⟩;rw[hve]at HVl;have Hve:=kH hve;clear hT hve
 by_cases h0:ve=0
 ·subst h0;have hsm:=C.aCt (C.tm_of Hve.out Hi.out).1;have he:envsE t=if 16<C.total (T.aAa t)then(0,3)else(((2 ^ C.total (T.aAa t):Nat):Int),0):=by unfold envsE;rw[if_neg (by simp[Hve.out])]
  rw[he];obtain⟨K,hK⟩:∃K,C.total (T.aAa t)=K:=⟨_,rfl⟩;rw[hK]at hsm HB⊢
  by_cases h16:16<K
  ·rw[if_pos h16];have hgt:(16:Int) <(K:Int):=by omega
   clear he hK
   go_enter func16,ntmps16
   go_wp2_with fail
   refine HVl.out.mono ?_;rintro e w1 ⟨rfl,hb1⟩;have HBk:=kH (HB.out Hve.out w1 hb1);have Hb1:=kH hb1;clear hb1 HVl HB
   go_wp2_with fail
   refine HBk.out.mono ?_;rintro e w2 ⟨rfl,hb2⟩;have Hb2:=kH (Hb1.out.trans (hb2.mono Hb1.out.size));clear hb2 HBk;go_wp2;go_ret2;exact⟨rfl,Hb2.out⟩
  ·rw[if_neg h16];have hle:¬(16:Int) <(K:Int):=by omega
   have hdec:decide ((16:Int) <(K:Int))=false:=by simpa using hle
   obtain⟨p,hp⟩:∃p:Nat,2 ^ K=p:=⟨_,rfl⟩;have hp2:p<=65536:=by rw[<-hp];exact zBK (zAJ (by decide) (show K<=16 by omega)) (by decide)
   clear he hK
   go_enter func16,ntmps16
   go_wp2_with fail
   refine HVl.out.mono ?_;rintro e w1 ⟨rfl,hb1⟩;have HBk:=kH (HB.out Hve.out w1 hb1);have Hb1:=kH hb1;clear hb1 HVl HB
   go_wp2_with fail
   refine HBk.out.mono ?_;rintro e w2 ⟨rfl,hb2⟩;have Hb2:=kH (Hb1.out.trans (hb2.mono Hb1.out.size));clear hb2 HBk;go_wp2;have hw:wrap64 ((2:Int) ^ K)=((2 ^ K:Nat):Int):=by
    have h1:(2:Int) ^ K=((2 ^ K:Nat):Int):=by simp
    rw[h1,hp,IntWalk.wrap64_in _ (by omega)]
   rw[hw];go_ret2;exact⟨rfl,Hb2.out⟩
 ·have hq:(ve == 0)=false:=by simpa using h0
  have hq2:(ve != 0)=true:=by simpa using h0
  have he:envsE t=(0,ve):=by unfold envsE;rw[Hve.out,if_pos h0]
  have Hne:=kH h0;rw[he];clear h0 he
  go_enter func16,ntmps16
  go_wp2_with fail
  refine HVl.out.mono ?_;rintro e w1 ⟨rfl,hb1⟩;have Hb1:=kH hb1;clear hb1 HVl HB;go_wp2;go_ret2;exact⟨rfl,Hb1.out⟩
def ekN(t:List T.Nd)(k v:Nat):List Int:=(List.range 4).map fun u=>if u<v then(C.envK (T.aAa t) k).getD u 0 else 0
theorem aLj(t:List T.Nd)(k v:Nat):(ekN t k v).length=4:=by simp[ekN]
theorem aHa(t:List T.Nd)(k v:Nat){u:Nat}(hu:u<4):(ekN t k v)[u]? =some (if u<v then(C.envK (T.aAa t) k).getD u 0 else 0):=by
 unfold ekN;rw[zAW,List.getElem?_range hu];rfl
theorem aMu(t:List T.Nd)(k:Nat):ekN t k 0= [0,0,0,0]:=by
 unfold ekN;simp[List.range_succ]
theorem aO1(t:List T.Nd)(k:Nat){v:Nat}(hv:v<4):(ekN t k v).set v ((C.envK (T.aAa t) k).getD v 0)=ekN t k (v+1):=by
 apply List.ext_getElem?;intro u;rcases Nat.lt_or_ge u 4 with hu | hu
 ·rw[List.getElem?_set,aHa _ _ _ hu,aHa _ _ _ hu]
  by_cases e:v=u
  ·subst e;rw[if_pos rfl,if_pos (by rw[aLj];exact hv),if_pos (by omega)]
  ·rw[if_neg e]
   by_cases h:u<v
   ·rw[if_pos h,if_pos (by omega)]
   ·rw[if_neg h,if_neg (by omega)]
 ·rw[zAN (by rw[zBC,aLj];exact hu),zAN (by rw[aLj];exact hu)]
theorem aMv(t:List T.Nd)(k:Nat):ekN t k 4=C.envK (T.aAa t) k:=by
 have hl:(C.envK (T.aAa t) k).length=4:=by rw[C.aE6];exact T.aA9 t
 apply List.ext_getElem?;intro v;rcases Nat.lt_or_ge v 4 with hv | hv
 ·rw[aHa _ _ _ hv,if_pos hv,List.getD,zAB (by omega)];rfl
 ·rw[zAN (by rw[aLj];exact hv),zAN (by omega)]
theorem aZ3{q m:Nat}(hq:q<=65536)(hm:m<=16):bits .and .i64 (q:Int) (wrap64 (wrap64 ((2:Int) ^ m)-1)) % 4294967296=((q % 2 ^ m:Nat):Int):=by
 have h1:2 ^ m<=2 ^ 16:=zAJ (by decide) hm;have h2:(2:Nat) ^ 16=65536:=by decide
 have h0:=Nat.two_pow_pos m;have h3:(2:Int) ^ m=((2 ^ m:Nat):Int):=by simp
 have h4:wrap64 (wrap64 ((2:Int) ^ m)-1)=(2:Int) ^ m-1:=by
  have h7:wrap64 ((2 ^ m:Nat):Int)=((2 ^ m:Nat):Int):=IntWalk.wrap64_in _ (by omega);rw[h3,h7,IntWalk.wrap64_in _ (by omega)]
 rw[h4,bits_mask .i64 62 (by decide) (fun n h0 h1=>IntWalk.i64_in n (by omega)) m (by omega) (q:Int) (by omega) (by omega),h3];have h5:q % 2 ^ m<2 ^ m:=Nat.mod_lt _ h0;have h6:((q:Int) % ((2 ^ m:Nat):Int))=((q % 2 ^ m:Nat):Int):=by rw[Int.natCast_emod]
 rw[h6];omega
def aBi(t:List T.Nd):Int×Int:=
 if aAb t≠0 then(0,aAb t)else if 16<C.total (T.aAa t)then(0,3)else((C.cntTo t (C.nEnv t):Int),0)
end
section
open Go.RowKit
def aCe(t:List T.Nd):Bool×Int:=if(aBi t).2≠0 then(false,(aBi t).2)else(decide (C.cntTo t (C.nEnv t)=C.nEnv t),0)
theorem aXs{t:List T.Nd}{env:List Int}(hm:C.Tm t)(he:T.EnvOk t env){j:Nat}{z:Int}(hz:(T.aAa t)[j]? =some z)(h0:0<z):B.isW z (env.getD j 0)=true:=by
 have h1:=C.aCx hm hz;have h2:=he.fit j z hz (by omega);unfold B.isW B.isWd;simp only[Bool.and_eq_true,zBQ];omega
theorem aZ4(t:List T.Nd)(env:List Int)(n ct ce:Nat)(At Ae:Option Addr)(W:World)(hT:StAt 5 NdR W At n t)(hE:SlAt (IntR .u32) W Ae 4 env)(hv:T.valid true t=0)(he:T.EnvOk t env):
 Calls prog 77 #[.slice At n ct, .slice Ae 4 ce] W fun e w'=>e= .returned (.bool true)/\Below W.heap.size W w':=by
 have hi:=aBq hT;have htm:=(C.tm_of hv hi).1;obtain⟨v1,v2,v3,v4,v5⟩:=aBk hv;have HW:=kH (aLu t n ct At W hT (T.aFc v3 hi) (by have:=hT.len;omega));have HE:=kH hE;have He:=kH (And.intro he htm);clear hT hE hv hi v1 v2 v3 v4 v5 he htm
 go_enter func77,ntmps77
 go_wp2_with fail
 refine HW.out.mono ?_;rintro e w1 ⟨g,rfl,hg,hrow,hb1⟩;have Hb1:=kH hb1;have Hrow:=kH hrow;clear hb1 hrow hg;go_wp2
 go_loopg [6] 5 (fun gg s6 wr=>∃j:Nat,j<=4/\s6= .int .i64 (j:Int)/\gg+j=5/\Hid (Below w1.heap.size w1 wr))
 case atStart=>exact⟨0,by omega,rfl,rfl,kH (Below.refl _ _)⟩
 case round=>
  obtain⟨j,hj,rfl,hgk,Hbw⟩:=hrel;have Hgk:=kH hgk;clear hgk
  by_cases hlt:j<4
  ·have hwl:=T.aA9 t;obtain⟨z,hz⟩:∃z,(T.aAa t)[j]? =some z:=⟨(T.aAa t)[j]'(by omega),zAB (by omega)⟩;have hcz:wr.cell? ⟨g,j,none⟩=some (.int .i64 z):=by
    rw[cell_of_row _ _ _ _ _ (0,0) ((Hbw.out.block _ (gA Hrow.out).1).trans Hrow.out),zAV,zAW,hz];rfl
   have hbt:=Hb1.out.trans (Hbw.out.mono Hb1.out.size);obtain⟨y,be,offe,ue,hy,rfl,hbe,hce,hue⟩:=(HE.out.below (aAd _) hbt).at_ hlt;obtain rfl:ue= .int .u32 y:=hue;have hyd:env.getD j 0=y:=aAi hy;obtain⟨y0,y1⟩:=He.out.1.word y (zAC hy);have HI:=kH (fun X=>aCq z y X y0 y1);obtain⟨iw,hiw⟩:∃iw,B.isW z y=iw:=⟨_,rfl⟩;rw[hiw]at HI;obtain⟨ov⟩:=ov_ex wr;have o1:=ov.cell hcz;have o2:=ov.cell hce;have K1:=kH (fun u=>aNs (ov:=ov) (HI.out (ov.f u)))
   by_cases hp:0<z
   ·have q:decide (0<z)=true:=by simpa using hp
    obtain rfl:iw=true:=by rw[<-hiw,<-hyd];exact aXs He.out.2 He.out.1 hz hp
    clear hy hz hyd hiw y0 y1 hp hbt hbe hwl
    go_upto_region 7 with(fail)
    refine aDq ov (by kernel_rfl) (by kernel_rfl) ?_
    repeat(go_big_quiet_step ((go_at_call 121;with_reducible exact K1.out _)))
    refine wpQuiet_nil ?_;rintro _ ⟨u,rfl⟩;have Hbo:=kH (Hbw.out.trans ((ov.below u).mono Hbw.out.size));clear o1 o2 hcz hce;generalize ov.f u=w5 at*;go_wp2
    go_roundg (gk-1)
    case measure=>have:=Hgk.out;omega
    case rel=>have:=Hgk.out;exact⟨j+1,by omega,by go_num,by omega,Hbo⟩
   ·have q:decide (0<z)=false:=by simpa using hp
    clear hy hz hyd hiw y0 y1 hp hbt hbe hwl
    go_upto_region 7 with(fail)
    refine aDq ov (by kernel_rfl) (by kernel_rfl) ?_
    repeat(go_big_quiet_step (fail))
    refine wpQuiet_nil ?_;rintro _ ⟨u,rfl⟩;have Hbo:=kH (Hbw.out.trans ((ov.below u).mono Hbw.out.size));clear o1 o2 hcz hce;generalize ov.f u=w5 at*;go_wp2
    go_roundg (gk-1)
    case measure=>have:=Hgk.out;omega
    case rel=>have:=Hgk.out;exact⟨j+1,by omega,by go_num,by omega,Hbo⟩
  ·obtain rfl:j=4:=by omega
   go_wp2;go_ret;exact⟨rfl,Hb1.out.trans (Hbw.out.mono Hb1.out.size)⟩
theorem aJc(t:List T.Nd)(env:List Int)(n ct ce:Nat)(At Ae:Option Addr)(W:World)(hT:StAt 5 NdR W At n t)(hE:SlAt (IntR .u32) W Ae 4 env)(hv:T.valid true t=0)(he:T.EnvOk t env):
 Calls prog 27 #[.slice At n ct, .slice Ae 4 ce] W fun e w'=>e= .returned (.tuple #[.int .u32 (C.rv t env), .int .i64 0])/\Below W.heap.size W w':=by
 have hi:=aBq hT;obtain⟨v1,v2,v3,v4,v5⟩:=aBk hv;have hn1:1<=n:=by have:=hT.len;omega
 have hn2:n<=300:=by have:=hT.len;omega
 have HS:=kH (T.aNk hv hi he);have HT:=kH hT;have HE:=kH hE;have HV:=kH (show Calls prog 51 #[.slice At n ct, .slice Ae 4 ce] W fun e w'=>∃v,e= .returned (.tuple #[v, .int .i64 0])/\OwnAt w' 45 1 v n ((T.vals t env).map (Value.int .u32))/\Below W.heap.size W w' from by
  have HA:=kH (aE0 t n ct At W hT);have Hv:=kH hv;have He:=kH he;clear hv he hT hE hi v1 v2 v3 v4 v5
  go_enter func51,ntmps51
  go_wp2_with fail
  refine HA.out.mono ?_;rintro e w1 ⟨rfl,hb1⟩;rw[Hv.out];have HB:=kH (aZ4 t env n ct ce At Ae w1 (HT.out.below aAh hb1) (HE.out.below (aAd _) hb1) Hv.out He.out);have Hb1:=kH hb1;clear hb1 HA
  go_wp2_with fail
  refine HB.out.mono ?_;rintro e w2 ⟨rfl,hb2⟩;have hb2':=Hb1.out.trans (hb2.mono Hb1.out.size);have HC:=kH (aXi t env n ct ce At Ae w2 (HT.out.below aAh hb2') (HE.out.below (aAd _) hb2') HS.out (by omega));have Hb2:=kH hb2';clear hb2 hb2' HB
  go_wp2_with fail
  refine HC.out.mono ?_;rintro e w3 ⟨v,rfl,k1,k2,k3⟩;have Hk:=kH (And.intro k1 (Hb2.out.trans (k2.mono Hb2.out.size)));clear k1 k2 k3 HC;go_wp2;go_ret2;exact⟨v,rfl,Hk.out.1,Hk.out.2⟩)
 obtain⟨n1,hn1'⟩:∃n1,n-1=n1:=⟨_,rfl⟩;have hni:((n:Nat):Int)-1=((n1:Nat):Int):=by omega
 have hwn:IntKind.i64.wrap ((n:Int)-1)=(n1:Int):=by rw[hni];exact IntWalk.i64_in _ (by omega)
 have hlt:n1<n:=by omega
 have hrv:C.rv t env=(T.vals t env).getD n1 0:=by unfold C.rv;rw[hT.len,hn1']
 have hvl:(T.vals t env).length=n:=by unfold T.vals;rw[T.valsTo_len];exact hT.len
 rw[hrv];have Hvl:=kH hvl;clear hT hE hi hv he v1 v2 v3 v4 v5 hn1' hni hrv hvl
 go_enter func27,ntmps27
 go_wp2_with fail
 refine HV.out.mono ?_;rintro e w1 ⟨v,rfl,k1,k2⟩;obtain⟨A,c,rfl⟩:=k1.form;have hx:(T.vals t env)[n1]? =some ((T.vals t env).getD n1 0):=by rw[List.getD,zAB (by rw[Hvl.out];exact hlt)];rfl
 obtain⟨g,o,c',e1,e2,_⟩:=aAg k1 (j:=n1) (u:= .int .u32 ((T.vals t env).getD n1 0)) (by rw[zAW,hx];rfl);injection e1 with e1 _ _
 subst e1;obtain⟨y,hy⟩:∃y,(T.vals t env).getD n1 0=y:=⟨_,rfl⟩;rw[hy]at e2;have Hy:=kH hy;have Hk2:=kH k2;clear k1 k2 hx HV hy;go_wp2;go_ret2;exact⟨by rw[Hy.out];rfl,Hk2.out⟩
theorem aP0(t:List T.Nd)(n ct:Nat)(At:Option Addr)(W:World)(hT:StAt 5 NdR W At n t)(hn1:1<=n):
 Calls prog 23 #[.slice At n ct] W fun e w'=>e= .returned (.int .i64 (rootW t))/\Below W.heap.size W w':=by
 have hle:=hT.le;obtain⟨n1,hn1'⟩:∃n1,n-1=n1:=⟨_,rfl⟩;have hni:((n:Nat):Int)-1=((n1:Nat):Int):=by omega
 have hlt:n1<n:=by omega
 obtain⟨x,b,off,A,c,hx,rfl,hb,x0,x1,_⟩:=aBf hT hlt;have hxw:rootW t=x.w:=by unfold rootW;rw[hT.len,hn1',List.getD,hx];rfl
 have hwn:IntKind.i64.wrap ((n:Int)-1)=(n1:Int):=by rw[hni];exact IntWalk.i64_in _ (by omega)
 have hq:((n:Int)== 0)=false:=by simp;omega
 rw[hxw];clear hT hx hxw x0 hn1' hni
 go_enter func23,ntmps23
 go_wp2;go_ret;exact⟨rfl,Below.refl _ _⟩
end
section
open Go.RowKit Go.MapKept Go.Maps Go.WideMaps
theorem aGw{w:World}{g:Nat}{l:List Int}{T:TypeId}(h:w.heap[g]? =some (.cells (l.map (Value.int .u32)).toArray T (0,0)))(hl:l.length<=9223372036854775807):SlAt (IntR .u32) w (some ⟨g,0,none⟩) l.length l:=by
 refine⟨rfl,hl,fun k x hk=>⟨g,0, .int .u32 x,rfl,(gA h).1,?_,rfl⟩⟩;rw[zBH,cell_of_row _ _ _ _ _ (0,0) h,zAV,zAW,hk];rfl
theorem aBa{t:List T.Nd}(h:aAb t=0):T.valid true t=0/\C.aBw t=1:=by
 unfold aAb at h
 by_cases q:T.valid true t=0
 ·rw[if_neg (by simp[q])]at h
  by_cases q2:rootW t=1
  ·refine⟨q,?_⟩;unfold rootW at q2;unfold C.aBw;rw[q2];rfl
  ·rw[if_pos q2]at h;cases h
 ·rw[if_pos q]at h;exact absurd h q
theorem aFi{t:List T.Nd}{c:C.Circ}(h:aAb t=0)(hi:∀y∈t,0<=y.imm)(hb:C.build t=some c):C.Says t c:=
 C.aIm (C.tm_of (aBa h).1 hi).1 (C.tm_of (aBa h).1 hi).2 hb
theorem asked{t:List T.Nd}{c:C.Circ}(h:aAb t=0)(hi:∀y∈t,0<=y.imm)(hb:C.build t=some c)(hB:C.Bo c.b){z:Int}(hz:z=1\/z= -1):
 S.aAe c.b.n (C.aAl c z)=0/\(∀k∈C.aAl c z,k.length<=3)/\(C.aAl c z).length=c.b.cls.length+1:=by
 have hs:=aFi h hi hb;have hl:=hs.root_lit (aBa h).2;have hlen:(C.aAl c z).length=c.b.cls.length+1:=by unfold C.aAl;rw[zAX];rfl
 refine⟨?_,fun k hk=>?_,hlen⟩
 ·unfold S.aAe;rw[if_neg (by have:=hB.n;have:=hB.c;rw[hlen];omega),if_pos];rw[zAD];intro k hk;rcases zBE.1 hk with hk | hk
  ·exact hs.ok.lits k hk
  ·rw[zBD.1 hk]
   show([z*c.root]).all (S.isLit c.b.n)=true
   simp only[List.all_cons,List.all_nil,Bool.and_true];simp only[S.isLit,zBQ]at hl⊢;rcases hz with rfl | rfl <;> omega
 ·rcases zBE.1 hk with hk | hk
  ·exact hB.s k hk
  ·rw[zBD.1 hk];exact Nat.le_of_ble_eq_true rfl
theorem aVy{t:List T.Nd}{c:C.Circ}(h:aAb t=0)(hi:∀y∈t,0<=y.imm)(hb:C.build t=some c)(hB:C.Bo c.b){z:Int}(hz:z=1\/z= -1){A:Option Addr}{cap:Nat}{W:World}(hA:SlAt (SlR (IntR .i64)) W A (c.b.cls.length+1) (C.aAl c z)):
 Calls prog 36 #[.int .i64 (c.b.n:Int), .slice A (c.b.cls.length+1) cap] W (aPz c.b.n (C.aAl c z) W):=by
 obtain⟨h1,h2,_⟩:=asked h hi hb hB hz;exact aXq c.b.n hB.n A (c.b.cls.length+1) cap (C.aAl c z) W hA h1 (fun k hk=>by have:=h2 k hk;omega)
def aKu(t:List T.Nd)(W:World)(e:Ending)(w':World):Prop:=
 Below W.heap.size W w'/\((aAb t≠0/\e= .returned (.tuple #[.slice none 0 0, .bool false, .int .i64 (aAb t)]))\/
  (aAb t=0/\C.build t=none/\e= .returned (.tuple #[.slice none 0 0, .bool false, .int .i64 3]))\/
  (aAb t=0/\∃c,C.build t=some c/\C.Bo c.b/\
   ((∃model,model.length=c.b.n/\(∀k∈C.aAl c (-1),S.sat model k=true)/\e= .returned (.tuple #[.slice none 0 0, .bool false, .int .i64 0]))\/
    (∃A cap l,S.aBg (C.aAl c (-1)) l=none/\l.length<=3001/\(∀k∈l,S.isClause c.b.n k=true/\k.length<=c.b.n)/\SlAt (SlR (IntR .i64)) w' A l.length l/\e= .returned (.tuple #[.slice A l.length cap, .bool true, .int .i64 0]))\/
    (¬S.aA2 (C.aAl c (-1)) []/\(∃k∈C.aAl c (-1),∀l∈k,¬S.Der (C.aAl c (-1)) [] l)/\e= .returned (.tuple #[.slice none 0 0, .bool false, .int .i64 3])))))
theorem aKv(t:List T.Nd)(n ct:Nat)(At:Option Addr)(W:World)(hT:StAt 5 NdR W At n t):
 Calls prog 12 #[.slice At n ct] W (aKu t W):=by
 have HW:=kH (aMs t n ct At W (-1) (.inr rfl) hT);have Hi:=kH (aBq hT);clear hT;have Hcm:=kH (show∀(args:Array Value) (X:World),Sem.run prog (callFunc 36 args) X= .ok (.enter 36 args) X from fun args X=>by simp[go_sem,callFunc,Tryz.f36])
 go_enter func12,ntmps12
 go_wp2_with fail
 refine HW.out.mono ?_;rintro e w1 ⟨hb1,⟨hc,rfl⟩ |⟨hc,hbn,rfl⟩ |⟨hc,c,Cb,Bb,Wb,tg,words,Ac,cc,hbs,hB,rfl,hI⟩⟩
 ·have Hf:=kH (And.intro hb1 hc);have hq:(aAb t == 0)=false:=by simpa using hc
  have hq2:(aAb t != 0)=true:=by simpa using hc
  clear hb1 hc HW;go_wp2;refine bodyPost_ret (aBo rfl _ _ _) rfl ?_;exact⟨Hf.out.1, .inl ⟨Hf.out.2,rfl⟩⟩
 ·have Hf:=kH (And.intro hb1 (And.intro hc hbn));clear hb1 hc hbn HW;go_wp2;refine bodyPost_ret (aBo rfl _ _ _) rfl ?_;exact⟨Hf.out.1, .inr (.inl ⟨Hf.out.2.1,Hf.out.2.2,rfl⟩)⟩
 ·have HSv:=kH (aVy (cap:=cc) hc Hi.out hbs hB (.inr rfl) (W:=w1.drew) hI.r);obtain⟨n0,hn0⟩:∃m,c.b.n=m:=⟨_,rfl⟩;obtain⟨m0,hm0⟩:∃m,c.b.cls.length=m:=⟨_,rfl⟩;have q0:=hI.ct.cb.2.2;have q1:=hI.nn;have q2:=hI.l;have hnb:n0<=4000:=by rw[<-hn0];exact hB.n
  rw[hn0]at q1 HSv;rw[hm0]at q2 HSv;have HS0:=kH (show(fun Y:World=>Y.cell? ⟨Cb,0,none⟩=some (.pointer (some ⟨Bb,0,none⟩))/\Y.cell? ⟨Bb,0,none⟩=some (.int .i64 (n0:Int))/\Y.cell? ⟨Bb,1,none⟩=some (.slice Ac (m0+1) cc)) w1.drew from⟨q0,q1,q2⟩);have HBl:=kH (And.intro hI.ct.ltC hI.bl);have Hb1:=kH (And.intro hb1 (And.intro hc (And.intro hbs (And.intro hB hn0))));clear hb1 hc hbs hB hI q0 q1 q2 hm0 hn0 HW
  go_upto_region 4 with(fail)
  refine wp_region_held_drew (S:=fun Y:World=>Y.cell? ⟨Cb,0,none⟩=some (.pointer (some ⟨Bb,0,none⟩))/\Y.cell? ⟨Bb,0,none⟩=some (.int .i64 (n0:Int))/\Y.cell? ⟨Bb,1,none⟩=some (.slice Ac (m0+1) cc)) (by kernel_rfl) (HS0.out) (fun hHh=>?_);refine tK 0 ?_;refine tK 1 ?_;refine tK 2 ?_;refine tK 3 ?_;refine tK 4 ?_;refine tK 5 ?_;refine tK 6 ?_;refine tK 7 ?_;refine tK 8 ?_;refine tK 9 ?_;refine tK 10 ?_;refine tK 11 ?_;refine tK 12 ?_;refine tK 13 ?_;refine rd 14 (fun KK hKK=>?_);clear hHh;refine aI3 rfl 36 Hcm.out (.tmp 25) (.tmp 32) _ _ rfl (.int .i64 (n0:Int)) (.slice Ac (m0+1) cc) (by go_simp) (by go_simp) HSv.out ?_;rintro e w2 ⟨hb2,⟨A2,c2,model,rfl,r1,r2,r3⟩ |⟨A2,c2,l,rfl,r1,r2,r3,r4⟩ |⟨rfl,r1,r2⟩⟩
  ·refine⟨_,rfl,?_⟩;have HE:=kH (show aKu t W (.returned (.tuple #[(.slice none 0 0), .bool false, .int .i64 0])) w2 from⟨Hb1.out.1.drew.trans (hb2.mono Hb1.out.1.size), .inr (.inr ⟨Hb1.out.2.1,c,Hb1.out.2.2.1,Hb1.out.2.2.2.1, .inl ⟨model,by rw[r2];exact Hb1.out.2.2.2.2.symm,r3,rfl⟩⟩)⟩);have HS2:=kH (show(fun Y:World=>Y.cell? ⟨Cb,0,none⟩=some (.pointer (some ⟨Bb,0,none⟩))/\Y.cell? ⟨Bb,0,none⟩=some (.int .i64 (n0:Int))/\Y.cell? ⟨Bb,1,none⟩=some (.slice Ac (m0+1) cc)) w2 from⟨(hb2.cell (p:=⟨Cb,0,none⟩) HBl.out.1).trans HS0.out.1,(hb2.cell (p:=⟨Bb,0,none⟩) HBl.out.2).trans HS0.out.2.1,(hb2.cell (p:=⟨Bb,1,none⟩) HBl.out.2).trans HS0.out.2.2⟩);clear hb2 r1 r2 r3;refine hKK.out _ _ HS2.out (fun hHh=>?_);clear hKK KK
   try simp only[Act.put,yL]
   refine tK 15 ?_;refine tK 16 ?_;refine tK 17 ?_;refine tK 18 ?_;refine tK 19 ?_;refine tK 20 ?_;refine tK 21 ?_;refine tK 22 ?_;refine tK 23 ?_;refine wpAnyH_done (by kernel_rfl) ?_ _;go_wp2;refine bodyPost_ret (aBo rfl _ _ _) rfl ?_;exact HE.out
  ·refine⟨_,rfl,?_⟩;have HE:=kH (show aKu t W (.returned (.tuple #[(.slice A2 l.length c2), .bool true, .int .i64 0])) w2 from⟨Hb1.out.1.drew.trans (hb2.mono Hb1.out.1.size), .inr (.inr ⟨Hb1.out.2.1,c,Hb1.out.2.2.1,Hb1.out.2.2.2.1, .inr (.inl ⟨A2,c2,l,r2,r3,by rw[Hb1.out.2.2.2.2];exact r4,r1,rfl⟩)⟩)⟩);have HS2:=kH (show(fun Y:World=>Y.cell? ⟨Cb,0,none⟩=some (.pointer (some ⟨Bb,0,none⟩))/\Y.cell? ⟨Bb,0,none⟩=some (.int .i64 (n0:Int))/\Y.cell? ⟨Bb,1,none⟩=some (.slice Ac (m0+1) cc)) w2 from⟨(hb2.cell (p:=⟨Cb,0,none⟩) HBl.out.1).trans HS0.out.1,(hb2.cell (p:=⟨Bb,0,none⟩) HBl.out.2).trans HS0.out.2.1,(hb2.cell (p:=⟨Bb,1,none⟩) HBl.out.2).trans HS0.out.2.2⟩);obtain⟨ll,hll⟩:∃m,l.length=m:=⟨_,rfl⟩;rw[hll]at HE⊢;clear hll;clear hb2 r1 r2 r3 r4;refine hKK.out _ _ HS2.out (fun hHh=>?_);clear hKK KK
   try simp only[Act.put,yL]
   refine tK 15 ?_;refine tK 16 ?_;refine tK 17 ?_;refine tK 18 ?_;refine tK 19 ?_;refine tK 20 ?_;refine tK 21 ?_;refine tK 22 ?_;refine tK 23 ?_;refine wpAnyH_done (by kernel_rfl) ?_ _;go_wp2;refine bodyPost_ret (aBo rfl _ _ _) rfl ?_;exact HE.out
  ·refine⟨_,rfl,?_⟩;have HE:=kH (show aKu t W (.returned (.tuple #[(.slice none 0 0), .bool false, .int .i64 3])) w2 from⟨Hb1.out.1.drew.trans (hb2.mono Hb1.out.1.size), .inr (.inr ⟨Hb1.out.2.1,c,Hb1.out.2.2.1,Hb1.out.2.2.2.1, .inr (.inr ⟨r1,r2,rfl⟩)⟩)⟩);have HS2:=kH (show(fun Y:World=>Y.cell? ⟨Cb,0,none⟩=some (.pointer (some ⟨Bb,0,none⟩))/\Y.cell? ⟨Bb,0,none⟩=some (.int .i64 (n0:Int))/\Y.cell? ⟨Bb,1,none⟩=some (.slice Ac (m0+1) cc)) w2 from⟨(hb2.cell (p:=⟨Cb,0,none⟩) HBl.out.1).trans HS0.out.1,(hb2.cell (p:=⟨Bb,0,none⟩) HBl.out.2).trans HS0.out.2.1,(hb2.cell (p:=⟨Bb,1,none⟩) HBl.out.2).trans HS0.out.2.2⟩);clear hb2 r1 r2;refine hKK.out _ _ HS2.out (fun hHh=>?_);clear hKK KK
   try simp only[Act.put,yL]
   refine tK 15 ?_;refine tK 16 ?_;refine tK 17 ?_;refine tK 18 ?_;refine tK 19 ?_;refine tK 20 ?_;refine tK 21 ?_;refine tK 22 ?_;refine tK 23 ?_;refine wpAnyH_done (by kernel_rfl) ?_ _;go_wp2;refine bodyPost_ret (aBo rfl _ _ _) rfl ?_;exact HE.out
end
section
open Go.RowKit
def bFe(n:Nat)(W:World)(e:Ending)(W':World):Prop:=Below W.heap.size W W'/\(e= .returned (.bool true)\/(e= .returned (.bool false)/\n<=24))
theorem aFj(t:List T.Nd)(n ct:Nat)(At:Option Addr)(W:World)(hT:StAt 5 NdR W At n t):
 Calls prog 10 #[.slice At n ct] W (bFe n W):=by
 have HT:=kH hT;have hle:=hT.le;clear hT
 by_cases h24:24<n
 ·have hq:(24:Int) <(n:Int):=by omega
  go_enter func10,ntmps10
  go_wp2;go_ret;exact⟨Below.refl _ _, .inl rfl⟩
 ·have hq:¬(24:Int) <(n:Int):=by omega
  have hq2:decide ((24:Int) <(n:Int))=false:=by simpa using hq
  have H24:=kH (show n<=24 by omega)
  go_enter func10,ntmps10
  go_upto_region 5 with(fail)
  go_loopw [4,3] (fun s4 s3 wr=>∃j z:Nat,j<=n/\s4= .int .i64 (j:Int)/\s3= .int .i64 (z:Int)/\z<=8*j/\wr=W) (fun s _ _=>n- (intOf s).toNat)
  case atStart=>exact⟨0,0,zBL _,rfl,rfl,zBL _,rfl⟩
  case round=>
   obtain⟨j,z,hj,rfl,rfl,hz,rfl⟩:=hrel
   by_cases hlt:j<n
   ·obtain⟨x,b,off,A,c,hx,rfl,hb,x0,x1,x2,x3,_⟩:=aBf HT.out hlt;have hjn:(j:Int) <(n:Int):=by omega
    obtain⟨xw,hxw⟩:∃w,x.w=w:=⟨_,rfl⟩;obtain⟨al,hal⟩:∃l,x.args.length=l:=⟨_,rfl⟩;rw[hxw]at x1;rw[hal]at x3;clear hx x0 x2 hxw hal
    by_cases c1:xw<0
    ·go_wp2;go_ret;exact⟨Below.refl _ _, .inl rfl⟩
    ·have q1:decide (xw<0)=false:=by simpa using c1
     by_cases c2:8<xw
     ·go_wp2;go_ret;exact⟨Below.refl _ _, .inl rfl⟩
     ·have q2:decide (8<xw)=false:=by simpa using c2
      by_cases c3:10<al
      ·have q3:(10:Int) <(al:Int):=by omega
       go_wp2;go_ret;exact⟨Below.refl _ _, .inl rfl⟩
      ·have q3:¬(10:Int) <(al:Int):=by omega
       have q4:decide ((10:Int) <(al:Int))=false:=by simpa using q3
       obtain⟨m,rfl⟩:∃m:Nat,xw=m:=⟨xw.toNat,by omega⟩;have hm8:m<=8:=by omega
       go_wp2;go_roundw
       case rel=>exact⟨j+1,z+m,by omega,by go_num,by go_num,by omega,trivial⟩
       case measure=>simp[intOf];omega
   ·obtain rfl:j=n:=by omega
    by_cases c1:90<z
    ·have hq:(90:Int) <(z:Int):=by omega
     go_wp2;go_ret;exact⟨Below.refl _ _, .inl rfl⟩
    ·have hq:¬(90:Int) <(z:Int):=by omega
     have hq2:decide ((90:Int) <(z:Int))=false:=by simpa using hq
     go_wp2;go_ret;exact⟨Below.refl _ _, .inr ⟨rfl,H24.out⟩⟩
end
section
def tw4:List T.Nd:= [⟨33,4,0, [],0⟩,⟨0,4,0, [],1⟩,⟨1,4,0, [0,0],0⟩,⟨11,4,0, [0,1],0⟩,⟨14,1,0, [2,3],0⟩]
def lt2:List T.Nd:= [⟨33,2,0, [],0⟩,⟨0,2,0, [],3⟩,⟨14,1,0, [0,1],2⟩]
theorem aH5:aAb tw4=0:=by decide +kernel
theorem aZ5:aBi lt2=(3,0):=by decide +kernel
theorem bCk:envsE lt2=(4,0):=by decide +kernel
theorem aP1:(match C.build tw4 with
 | none=>false
 | some c=>decide ([1]∈c.b.cls) && decide ([c.root,-1]∈c.b.cls))=true:=by decide +kernel
theorem aZ6:aCe tw4=(true,0):=by decide +kernel
end
section
open Go.RowKit Go.MapKept Go.Maps Go.WideMaps
noncomputable def aB5(t:List T.Nd)(l:List (List Int)):Int:=
 if aAb t≠0 then aAb t else match C.build t with
  | none=>3
  | some c=>(S.check c.b.n (C.aAl c (-1)) l).2
theorem bEe{cs:List (List Int)}(h:∀k∈cs,k.length<=3):tot cs<=3*cs.length:=by
 induction cs with
 | nil=>simp[tot]
 | cons x r ih=>
  have h1:=h x (List.mem_cons_self ..);have h2:=ih fun k hk=>h k (zAQ _ hk)
  simp only[tot,List.map_cons,List.sum_cons,List.length_cons]at h2⊢;omega
theorem aGx(t:List T.Nd)(n ct:Nat)(At:Option Addr)(W:World)(hT:StAt 5 NdR W At n t)(D:Option Addr)(p d:Nat)(l:List (List Int))(hD:SlAt (SlR (IntR .i64)) W D p l)(htl:tot l<=20000000):
 Calls prog 14 #[.slice At n ct, .slice D p d] W fun e w'=>Below W.heap.size W w'/\e= .returned (.int .i64 (aB5 t l)):=by
 have HW:=kH (aMs t n ct At W (-1) (.inr rfl) hT);have Hi:=kH (aBq hT);have HD:=kH (And.intro hD htl);clear hT hD htl;have Hcm:=kH (show∀(args:Array Value) (X:World),Sem.run prog (callFunc 37 args) X= .ok (.enter 37 args) X from fun args X=>by simp[go_sem,callFunc,Tryz.f37])
 go_enter func14,ntmps14
 go_wp2_with fail
 refine HW.out.mono ?_;rintro e w1 ⟨hb1,⟨hc,rfl⟩ |⟨hc,hbn,rfl⟩ |⟨hc,c,Cb,Bb,Wb,tg,words,Ac,cc,hbs,hB,rfl,hI⟩⟩
 ·have Hf:=kH (And.intro hb1 (show aB5 t l=aAb t from by unfold aB5;rw[if_pos hc]));have hq:(aAb t == 0)=false:=by simpa using hc
  have hq2:(aAb t != 0)=true:=by simpa using hc
  clear hb1 hc HW;go_wp2;go_ret;exact⟨Hf.out.1,by rw[Hf.out.2];rfl⟩
 ·have Hf:=kH (And.intro hb1 (show aB5 t l=3 from by unfold aB5;rw[if_neg (by simp[hc]),hbn]));clear hb1 hc hbn HW;go_wp2;go_ret;exact⟨Hf.out.1,by rw[Hf.out.2];rfl⟩
 ·obtain⟨n0,hn0⟩:∃m,c.b.n=m:=⟨_,rfl⟩;obtain⟨m0,hm0⟩:∃m,c.b.cls.length=m:=⟨_,rfl⟩;have q0:=hI.ct.cb.2.2;have q1:=hI.nn;have q2:=hI.l;have q3:=hI.r;have hnb:n0<=4000:=by rw[<-hn0];exact hB.n
  obtain⟨a1,a2,a3⟩:=asked hc Hi.out hbs hB (z:= -1) (.inr rfl);have hres:aB5 t l=(S.check (c.b.n:Int) (C.aAl c (-1)) l).2:=by unfold aB5;rw[if_neg (by simp[hc]),hbs]
  have htc:tot (C.aAl c (-1))<=20000000:=by
   have:=bEe a2;have:=hB.c;omega
  rw[hn0]at q1 hres;rw[hm0]at q2 q3;have HSv:=kH (aXr (n0:Int) Ac D (m0+1) cc p d (C.aAl c (-1)) l w1.drew q3 (HD.out.1.below aCd hb1.drew) htc HD.out.2);have HS0:=kH (show(fun Y:World=>Y.cell? ⟨Cb,0,none⟩=some (.pointer (some ⟨Bb,0,none⟩))/\Y.cell? ⟨Bb,0,none⟩=some (.int .i64 (n0:Int))/\Y.cell? ⟨Bb,1,none⟩=some (.slice Ac (m0+1) cc)) w1.drew from⟨q0,q1,q2⟩);have HBl:=kH (And.intro hI.ct.ltC hI.bl);have Hb1:=kH (And.intro hb1 hres);clear hb1 hc hbs hB hI q0 q1 q2 q3 hm0 hn0 HW a1 a2 a3 hres htc
  go_upto_region 4 with(fail)
  refine wp_region_held_drew (S:=fun Y:World=>Y.cell? ⟨Cb,0,none⟩=some (.pointer (some ⟨Bb,0,none⟩))/\Y.cell? ⟨Bb,0,none⟩=some (.int .i64 (n0:Int))/\Y.cell? ⟨Bb,1,none⟩=some (.slice Ac (m0+1) cc)) (by kernel_rfl) (HS0.out) (fun hHh=>?_);refine tK 0 ?_;refine tK 1 ?_;refine tK 2 ?_;refine tK 3 ?_;refine tK 4 ?_;refine tK 5 ?_;refine tK 6 ?_;refine tK 7 ?_;refine tK 8 ?_;refine tK 9 ?_;refine tK 10 ?_;refine tK 11 ?_;refine tK 12 ?_;refine tK 13 ?_;refine tK 14 ?_;refine rd 15 (fun KK hKK=>?_);clear hHh;refine aCs rfl 37 Hcm.out (.tmp 22) (.tmp 29) (.tmp 30) _ _ _ rfl (.int .i64 (n0:Int)) (.slice Ac (m0+1) cc) (.slice D p d) (by go_simp) (by go_simp) (by go_simp) HSv.out ?_;rintro e w2 ⟨rfl,hb2⟩;refine⟨_,rfl,?_⟩;have HE:=kH (Hb1.out.1.drew.trans (hb2.mono Hb1.out.1.size));have HS2:=kH (show(fun Y:World=>Y.cell? ⟨Cb,0,none⟩=some (.pointer (some ⟨Bb,0,none⟩))/\Y.cell? ⟨Bb,0,none⟩=some (.int .i64 (n0:Int))/\Y.cell? ⟨Bb,1,none⟩=some (.slice Ac (m0+1) cc)) w2 from⟨(hb2.cell (p:=⟨Cb,0,none⟩) HBl.out.1).trans HS0.out.1,(hb2.cell (p:=⟨Bb,0,none⟩) HBl.out.2).trans HS0.out.2.1,(hb2.cell (p:=⟨Bb,1,none⟩) HBl.out.2).trans HS0.out.2.2⟩);clear hb2;refine hKK.out _ _ HS2.out (fun hHh=>?_);clear hKK KK
  try simp only[Act.put,yL]
  refine tK 16 ?_;refine tK 17 ?_;refine tK 18 ?_;refine tK 19 ?_;refine wpAnyH_done (by kernel_rfl) ?_ _;go_wp2;go_ret;exact⟨HE.out,by rw[Hb1.out.2];rfl⟩
end
section
open Go.RowKit
theorem aFk{w:World}{g:Nat}{l:List Int}{T:TypeId}(h:w.heap[g]? =some (.cells (l.map (Value.int .i64)).toArray T (0,0)))(hl:l.length<=9223372036854775807):SlAt (IntR .i64) w (some ⟨g,0,none⟩) l.length l:=by
 refine⟨rfl,hl,fun k x hk=>⟨g,0, .int .i64 x,rfl,(gA h).1,?_,rfl⟩⟩;rw[zBH,cell_of_row _ _ _ _ _ (0,0) h,zAV,zAW,hk];rfl
theorem bFf{w:World}{g0 g1 g2 g3:Nat}(h0:w.heap[g0]? =some (.cells #[.int .i64 0, .int .i64 0] 3 (0,0)))(h1:w.heap[g1]? =some (.cells #[.int .i64 0, .int .i64 1] 3 (0,0)))(h2:w.heap[g2]? =some (.cells #[.int .i64 2, .int .i64 3] 3 (0,0)))
 (h3:w.heap[g3]? =some (.cells #[.int .i64 33, .int .i64 4, .int .i64 0, .slice none 0 0, .int .u32 0, .int .i64 0, .int .i64 4, .int .i64 0, .slice none 0 0, .int .u32 1,
  .int .i64 1, .int .i64 4, .int .i64 0, .slice (some ⟨g0,0,none⟩) 2 2, .int .u32 0, .int .i64 11, .int .i64 4, .int .i64 0, .slice (some ⟨g1,0,none⟩) 2 2, .int .u32 0,
  .int .i64 14, .int .i64 1, .int .i64 0, .slice (some ⟨g2,0,none⟩) 2 2, .int .u32 0] 56 (0,0))):StAt 5 NdR w (some ⟨g3,0,none⟩) 5 tw4:=by
 have hlt:=(gA h3).1;have s0:SlAt (IntR .i64) w (some ⟨g0,0,none⟩) 2 [0,0]:=aFk (l:= [0,0]) h0 (by decide);have s1:SlAt (IntR .i64) w (some ⟨g1,0,none⟩) 2 [0,1]:=aFk (l:= [0,1]) h1 (by decide);have s2:SlAt (IntR .i64) w (some ⟨g2,0,none⟩) 2 [2,3]:=aFk (l:= [2,3]) h2 (by decide);refine⟨rfl,by omega,fun k x hx=>?_⟩;have hk:k<5:=(zAA.1 hx).1;have cell:∀j,w.cell? ⟨g3,j,none⟩=_:=fun j=>cell_of_row w g3 j _ _ (0,0) h3
 rcases(show k=0\/k=1\/k=2\/k=3\/k=4 by omega)with rfl | rfl | rfl | rfl | rfl
 ·cases hx;refine⟨g3,0, [.int .i64 33, .int .i64 4, .int .i64 0, .slice none 0 0, .int .u32 0],rfl,hlt,rfl,fun j u hu=>?_,none,0,rfl,SlAt.nil_ none,by decide,by decide⟩;rw[cell];rcases j with _ | _ | _ | _ | _ | j
  all_goals first | exact hu |(simp at hu)
 ·cases hx;refine⟨g3,0, [.int .i64 0, .int .i64 4, .int .i64 0, .slice none 0 0, .int .u32 1],rfl,hlt,rfl,fun j u hu=>?_,none,0,rfl,SlAt.nil_ none,by decide,by decide⟩;rw[cell];rcases j with _ | _ | _ | _ | _ | j
  all_goals first | exact hu |(simp at hu)
 ·cases hx;refine⟨g3,0, [.int .i64 1, .int .i64 4, .int .i64 0, .slice (some ⟨g0,0,none⟩) 2 2, .int .u32 0],rfl,hlt,rfl,fun j u hu=>?_,some ⟨g0,0,none⟩,2,rfl,s0,by decide,by decide⟩;rw[cell];rcases j with _ | _ | _ | _ | _ | j
  all_goals first | exact hu |(simp at hu)
 ·cases hx;refine⟨g3,0, [.int .i64 11, .int .i64 4, .int .i64 0, .slice (some ⟨g1,0,none⟩) 2 2, .int .u32 0],rfl,hlt,rfl,fun j u hu=>?_,some ⟨g1,0,none⟩,2,rfl,s1,by decide,by decide⟩;rw[cell];rcases j with _ | _ | _ | _ | _ | j
  all_goals first | exact hu |(simp at hu)
 ·cases hx;refine⟨g3,0, [.int .i64 14, .int .i64 1, .int .i64 0, .slice (some ⟨g2,0,none⟩) 2 2, .int .u32 0],rfl,hlt,rfl,fun j u hu=>?_,some ⟨g2,0,none⟩,2,rfl,s2,by decide,by decide⟩;rw[cell];rcases j with _ | _ | _ | _ | _ | j
  all_goals first | exact hu |(simp at hu)
theorem bFg{w:World}{g0 g3:Nat}(h0:w.heap[g0]? =some (.cells #[.int .i64 0, .int .i64 1] 3 (0,0)))
 (h3:w.heap[g3]? =some (.cells #[.int .i64 33, .int .i64 2, .int .i64 0, .slice none 0 0, .int .u32 0, .int .i64 0, .int .i64 2, .int .i64 0, .slice none 0 0, .int .u32 3,
  .int .i64 14, .int .i64 1, .int .i64 0, .slice (some ⟨g0,0,none⟩) 2 2, .int .u32 2] 56 (0,0))):StAt 5 NdR w (some ⟨g3,0,none⟩) 3 lt2:=by
 have hlt:=(gA h3).1;have s0:SlAt (IntR .i64) w (some ⟨g0,0,none⟩) 2 [0,1]:=aFk (l:= [0,1]) h0 (by decide);refine⟨rfl,by omega,fun k x hx=>?_⟩;have hk:k<3:=(zAA.1 hx).1;have cell:∀j,w.cell? ⟨g3,j,none⟩=_:=fun j=>cell_of_row w g3 j _ _ (0,0) h3
 rcases(show k=0\/k=1\/k=2 by omega)with rfl | rfl | rfl
 ·cases hx;refine⟨g3,0, [.int .i64 33, .int .i64 2, .int .i64 0, .slice none 0 0, .int .u32 0],rfl,hlt,rfl,fun j u hu=>?_,none,0,rfl,SlAt.nil_ none,by decide,by decide⟩;rw[cell];rcases j with _ | _ | _ | _ | _ | j
  all_goals first | exact hu |(simp at hu)
 ·cases hx;refine⟨g3,0, [.int .i64 0, .int .i64 2, .int .i64 0, .slice none 0 0, .int .u32 3],rfl,hlt,rfl,fun j u hu=>?_,none,0,rfl,SlAt.nil_ none,by decide,by decide⟩;rw[cell];rcases j with _ | _ | _ | _ | _ | j
  all_goals first | exact hu |(simp at hu)
 ·cases hx;refine⟨g3,0, [.int .i64 14, .int .i64 1, .int .i64 0, .slice (some ⟨g0,0,none⟩) 2 2, .int .u32 2],rfl,hlt,rfl,fun j u hu=>?_,some ⟨g0,0,none⟩,2,rfl,s0,by decide,by decide⟩;rw[cell];rcases j with _ | _ | _ | _ | _ | j
  all_goals first | exact hu |(simp at hu)
theorem aJv{X:World}{g:Nat}(h:X.heap.size=g)(o:Obj):(X.alloc o).heap[g]? =some o:=by
 subst h;exact heap_alloc_new X o
theorem aP2(W:World):
 Calls prog 34 #[.int .i64 4] W fun e W'=>∃A,e= .returned (.slice A 5 5)/\Below W.heap.size W W'/\StAt 5 NdR W' A 5 tw4:=by
 go_enter func34,ntmps34
 go_wp2;go_ret;refine⟨_,rfl,?_,?_⟩
 ·exact(((al0).alloc (by simp) _).alloc (by simp only[World.size_alloc];omega) _).alloc (by simp only[World.size_alloc];omega) _
 ·exact bFf (aA1 (aA1 (aA1 (heap_alloc_new W _) _) _) _) (aA1 (aA1 (aC2 W _ _) _) _) (aA1 (aJv (by simp only[World.size_alloc]) _) _) (aJv (by simp only[World.size_alloc]) _)
theorem aL1{t:List T.Nd}{c:C.Circ}{l:List (List Int)}(hc:aAb t=0)(hi:∀y∈t,0<=y.imm)(hb:C.build t=some c)(hB:C.Bo c.b)(hf:S.aBg (C.aAl c (-1)) l=none)(hl:l.length<=3001)(hk:∀k∈l,S.isClause c.b.n k=true):aB5 t l=0:=by
 unfold aB5;rw[if_neg (by simp[hc]),hb]
 show(S.check _ _ _).2=0
 unfold S.check;have h1:=(asked hc hi hb hB (z:= -1) (.inr rfl)).1;have h2:S.aAe c.b.n l=0:=by
  unfold S.aAe;rw[if_neg (by have:=hB.n;omega),if_pos];exact zAD.2 hk
 rw[if_neg (by simp[h1]),if_neg (by simp[h2]),hf]
theorem aGd{t:List T.Nd}(h:(aCe t).2=0):aCe t=(decide (C.cntTo t (C.nEnv t)=C.nEnv t),0):=by
 unfold aCe at h⊢
 by_cases h0:(aBi t).2≠0
 ·rw[if_pos h0]at h;exact absurd h h0
 ·rw[if_neg h0]
theorem aH6{t:List T.Nd}{c:C.Circ}{m:List Bool}(hc:aAb t=0)(hi:∀y∈t,0<=y.imm)(hb:C.build t=some c)(hm:∀k∈C.aAl c (-1),S.sat m k=true):C.cntTo t (C.nEnv t)≠C.nEnv t:=by
 have hs:=aFi hc hi hb;have h1:=(aBa hc).2;have hr:=hs.root_lit h1;have h0:c.root≠0:=S.aAc hr;obtain⟨k1,k2⟩:=hs.model (z:= -1) (by decide) hm h0;intro he;have h2:=(hs.valid_iff h1).2 he (C.modE m);rw[k1 _ hr]at h2;rw[show(-1:Int)*c.root= -c.root by omega,C.aMb m h0,h2]at k2;cases k2
theorem aXt{c:C.Circ}(hb:C.build tw4=some c):S.aA2 (C.aAl c (-1)) []:=by
 have h:=aP1;rw[hb]at h;simp only[Bool.and_eq_true,zBQ]at h;obtain⟨h1,h2⟩:=h;have d1:S.Der (C.aAl c (-1)) [] 1:= .unit_ (c:= [1]) (zAO _ h1) (by simp) (fun m hm hne=>absurd (by simpa using hm) hne);have d2:S.Der (C.aAl c (-1)) [] c.root:= .unit_ (c:= [c.root,-1]) (zAO _ h2) (by simp) (fun m hm hne=>by
  have:m= -1:=by
   rcases zBF.1 hm with e | e
   ·exact absurd e hne
   ·simpa using e
  subst this;exact d1)
 refine .inr ⟨[-1*c.root],zAP _ (by simp),fun m hm=>?_⟩;rw[zBD.1 hm,show -(-1*c.root)=c.root by omega];exact d2
theorem bCl:∃c,C.build tw4=some c:=by
 have h:=aP1;cases hb:C.build tw4 with
 | none=>rw[hb]at h;cases h
 | some c=>exact⟨c,rfl⟩
theorem aJd{l:List (List Int)}{n:Nat}(h:∀k∈l,k.length<=n):tot l<=l.length*n:=by
 induction l with
 | nil=>simp[tot]
 | cons x r ih=>
  have h1:=h x (List.mem_cons_self ..);have h2:=ih fun k hk=>h k (zAQ _ hk)
  simp only[tot,List.map_cons,List.sum_cons,List.length_cons]at h2⊢;rw[Nat.add_mul,Nat.one_mul];omega
theorem aS0(HCT:∀(A:Option Addr) (X:World),StAt 5 NdR X A 3 lt2->Calls prog 18 #[.slice A 3 3] X fun e w'=>e= .returned (.tuple #[.int .i64 (aBi lt2).1, .int .i64 (aBi lt2).2])/\Below X.heap.size X w')(W:World):Calls prog 11 #[] W fun e W'=>e= .returned (.bool true)/\Below W.heap.size W W':=by
 have HCT:=kH HCT;have HT1:=kH (aP2 W)
 go_enter func11,ntmps11
 go_wp2_with fail
 refine HT1.out.mono ?_;rintro e w1 ⟨A1,rfl,hb1,hst1⟩;have HP:=kH (aKv tw4 5 5 A1 w1 hst1);have Hb1:=kH hb1;have Hi:=kH (aBq hst1);clear hb1 hst1 HT1
 go_wp2_with fail
 refine HP.out.mono ?_;rintro e w2 ⟨hb2,⟨hno,_⟩ |⟨_,hno,_⟩ |⟨_,c,hbs,hB,⟨m,_,hm,_⟩ |⟨A2,c2,l,hf,hl,hk,hsl,rfl⟩ |⟨hno,_⟩⟩⟩
 ·exact absurd aH5 hno
 ·obtain⟨c,hc⟩:=bCl;rw[hc]at hno;cases hno
 ·have h1:=aH6 aH5 Hi.out hbs hm;have h2:=aZ6;have h3:=aGd (t:=tw4) (by rw[h2]);rw[h2]at h3;have h4:=(Prod.mk.inj h3).1;exact absurd (of_decide_eq_true h4.symm) h1
 ·have hck:=aL1 aH5 Hi.out hbs hB hf hl (fun k hk'=>(hk k hk').1);have htl:tot l<=20000000:=by
   have h1:=aJd (l:=l) (n:=4000) (fun k hk'=>by have:=(hk k hk').2;have:=hB.n;omega);omega
  have Hp:=kH (And.intro (Hb1.out.trans (hb2.mono Hb1.out.size)) (And.intro hsl (And.intro hck htl)));obtain⟨ll,hll⟩:∃m,l.length=m:=⟨_,rfl⟩;rw[hll]at hsl Hp⊢;clear hb2 hbs hB hf hl hk hsl hck htl hll HP
  go_upto_region 3 with(fail)
  obtain⟨w3,hw3⟩:∃w3,w3=(w2.alloc (.cells #[.int .i64 0, .int .i64 1] 3)).alloc (.cells #[.int .i64 33, .int .i64 2, .int .i64 0, .slice none 0 0, .int .u32 0, .int .i64 0, .int .i64 2, .int .i64 0, .slice none 0 0, .int .u32 3,
   .int .i64 14, .int .i64 1, .int .i64 0, .slice (some ⟨w2.heap.size,0,none⟩) 2 2, .int .u32 2] 56):=⟨_,rfl⟩
  rw[<-hw3];have hb3:Below w2.heap.size w2 w3:=by rw[hw3];exact(al0).alloc (by simp) _
  have hst:StAt 5 NdR w3 (some ⟨w2.heap.size+1,0,none⟩) 3 lt2:=by rw[hw3];exact bFg (aA1 (heap_alloc_new w2 _) _) (aC2 w2 _ _)
  have HC:=kH (HCT.out _ w3 hst);rw[aZ5]at HC;have HE:=kH (fun X (hX:Below w3.heap.size w3 X)=>aDm lt2 3 3 (some ⟨w2.heap.size+1,0,none⟩) X (hst.below aAh hX));rw[bCk]at HE;have Hb3:=kH hb3;clear hw3 hb3 hst
  go_wp2_with fail
  refine HC.out.mono ?_;rintro e w4 ⟨rfl,hb4⟩;have HEk:=kH (HE.out w4 hb4);have Hb4:=kH (Hb3.out.trans (hb4.mono Hb3.out.size));clear hb4 HC HE
  go_wp2_with fail
  refine HEk.out.mono ?_;rintro e w5 ⟨rfl,hb5⟩;have hb5':=Hb4.out.trans (hb5.mono Hb4.out.size);have HT2:=kH (aP2 w5);have Hb5:=kH hb5';clear hb5 hb5' HEk
  go_wp2_with fail
  refine HT2.out.mono ?_;rintro e w6 ⟨A6,rfl,hb6,hst6⟩;have hb6':=Hb5.out.trans (hb6.mono Hb5.out.size);have HK:=kH (aGx tw4 5 5 A6 w6 hst6 A2 ll c2 l (Hp.out.2.1.below aCd hb6') Hp.out.2.2.2);rw[Hp.out.2.2.1]at HK;have Hb6:=kH (Hp.out.1.trans (hb6'.mono Hp.out.1.size));clear hb6 hb6' hst6 HT2
  go_wp2_with fail
  refine HK.out.mono ?_;rintro e w7 ⟨hb7,rfl⟩;have Hb7:=kH (Hb6.out.trans (hb7.mono Hb6.out.size));clear hb7 HK;go_wp2;go_ret;exact⟨rfl,Hb7.out⟩
 ·exact absurd (aXt hbs) hno
end
end Go.Proofs.YtchdbhggbdcapaaGreat
