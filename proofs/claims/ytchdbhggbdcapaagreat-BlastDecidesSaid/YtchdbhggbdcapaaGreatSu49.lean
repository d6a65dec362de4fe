/- Part. -/
import Derived.Test.YtchdbhggbdcapaaGreatSuLX
import Derived.Test.YtchdbhggbdcapaaGreatSu29
import Derived.Test.YtchdbhggbdcapaaGreatSu47
import Derived.Test.YtchdbhggbdcapaaGreatSu45
import Derived.Test.YtchdbhggbdcapaaGreatSu38
import Derived.Test.YtchdbhggbdcapaaGreatSu40
import Derived.Test.YtchdbhggbdcapaaGreatSu48
set_option linter.unusedVariables false
set_option linter.unusedSimpArgs false
set_option maxRecDepth 100000
set_option maxHeartbeats 16000000
section
namespace Go.Proofs.YtchdbhggbdcapaaGreat.C
open T (Nd)
def notT(t:List Nd):List Nd:=(t ++ [⟨0,1,0, [],0⟩])++ [⟨14,1,0, [(t.length:Int)-1,(t.length:Int)],0⟩]
theorem aS7(t:List Nd):(notT t).length=t.length+2:=by simp[notT]
theorem aJf(t:List Nd){i:Nat}(hi:i<t.length):(notT t)[i]? =t[i]? :=by
 unfold notT;rw[zBT,zAE hi]
theorem aN9(t:List Nd):(notT t)[t.length]? =some ⟨0,1,0, [],0⟩:=by
 unfold notT;rw[zBT,zAF (zBJ _),zBG];rfl
theorem aOa(t:List Nd):(notT t)[t.length+1]? =some ⟨14,1,0, [(t.length:Int)-1,(t.length:Int)],0⟩:=by
 unfold notT;rw[zBT,zAF (by omega),show t.length+1-t.length=1 by omega];rfl
theorem aKx(t:List Nd){i:Nat}(hi:i<t.length):(notT t).getD i default=t.getD i default:=by
 rw[List.getD,List.getD,aJf t hi]
theorem bCw{t:List Nd}(h:∀y∈t,0<=y.imm):∀y∈notT t,0<=y.imm:=fun y hy=>by
 unfold notT at hy;rcases zBE.1 hy with hy | hy
 ·rcases zBE.1 hy with hy | hy
  ·exact h y hy
  ·rw[zBD.1 hy];decide
 ·rw[zBD.1 hy];exact Int.le_refl 0
theorem aV1{t:List Nd}{i:Nat}{x:Nd}(hx:∀a∈x.args,0<=a/\a<(t.length:Int))(j:Nat)(h0:1<=t.length):T.wd (notT t) x j=T.wd t x j:=by
 unfold T.wd;rw[aKx]
 by_cases hj:j<x.args.length
 ·have:=hx _ (zBM hj);rw[List.getD,zAB hj];simp only[Option.getD_some];omega
 ·rw[List.getD,zAN (by omega)];simp only[Option.getD_none];omega
theorem aGf(t:List Nd):T.aAa (notT t)=T.aAa t:=by
 unfold notT;rw[T.aCo,if_neg (by simp),T.aCo,if_neg (by simp)]
theorem aXw{t:List Nd}(h:aAb t=0)(hn:t.length<=24):aAb (notT t)=0:=by
 obtain⟨hv,hw⟩:=aBa h;obtain⟨v1,v2,v3,v4,v5⟩:=aBk hv;have hl:=aS7 t;have hroot:rootW (notT t)=1:=by
  unfold rootW;rw[hl,show t.length+2-1=t.length+1 by omega,List.getD,aOa];rfl
 have hlast:∃y,t[t.length-1]? =some y/\y.w=1:=by
  refine⟨t[t.length-1]'(by omega),zAB (by omega),?_⟩;have:=T.aAo (v3 _ _ (zAB (show t.length-1<t.length by omega)));unfold aBw at hw;rw[List.getD,zAB (show t.length-1<t.length by omega)]at hw;simp only[Option.getD_some]at hw;omega
 obtain⟨y,hy,hyw⟩:=hlast;have hva:T.valid true (notT t)=0:=by
  unfold T.valid;rw[if_neg (by rw[hl];omega)];have s:((notT t).zipIdx.all fun p=>T.aAq true p.2 p.1)=true:=by
   refine T.aEg.2 fun i x hx=>?_
   by_cases hi:i<t.length
   ·rw[aJf t hi]at hx;exact v3 i x hx
   ·by_cases hi2:i=t.length
    ·subst hi2;rw[aN9]at hx;cases hx;simp[T.aAq,T.ar,T.immOk,T.aCh];decide
    ·have:i=t.length+1:=by
      have:=(zAA.1 hx).1;rw[hl]at this;omega
     subst this;rw[aOa]at hx;cases hx;simp only[T.aAq,T.ar,T.immOk,T.aCh];simp;omega
  rw[if_neg (by simp[s])];have ty:((notT t).all (T.typed (notT t)))=true:=by
   refine zAD.2 fun x hx=>?_
   obtain⟨i,hi'⟩:=zAG hx
   by_cases hi:i<t.length
   ·rw[aJf t hi]at hi';have hm:=zAC hi';have ha:=(T.aAo (v3 i x hi')).2.2.2.2.2;have hw:=v4 x hm;unfold T.typed at hw⊢;have hwd:∀j,T.wd (notT t) x j=T.wd t x j:=fun j=>aV1 (i:=i) (fun a h=>⟨(ha a h).1,by have:=(ha a h).2;omega⟩) j v1
    rw[hwd,hwd,hwd];exact hw
   ·by_cases hi2:i=t.length
    ·subst hi2;rw[aN9]at hi';cases hi';rfl
    ·have:i=t.length+1:=by
      have:=(zAA.1 hi').1;rw[hl]at this;omega
     subst this;rw[aOa]at hi';cases hi';unfold T.typed;rw[if_neg (by simp),if_pos rfl];unfold T.wd;simp only[List.getD_cons_zero,List.getD_cons_succ];rw[show((t.length:Int)-1).toNat=t.length-1 by omega,zBA,aKx t (by omega),List.getD,hy,List.getD,aN9];simp[hyw]
  rw[if_neg (by simp[ty])];rw[if_neg (by
   have c1:=T.aH2 (x:=⟨0,1,0, [],0⟩) v5 (by simp);have c2:=T.aH2 (x:=⟨14,1,0, [(t.length:Int)-1,(t.length:Int)],0⟩) c1 (by simp);have c3:T.aAw (notT t)=false:=c2;simp[c3])]
 unfold aAb;rw[if_neg (by simp[hva]),if_neg (by simp[hroot])]
theorem aP4{t:List Nd}(hs:∀(i:Nat) (x:Nd),t[i]? =some x->∀a∈x.args,0<=a/\a<(i:Int))(h0:1<=t.length)(env:List Int):∀j,j<=t.length->T.valsTo (notT t) env j=T.valsTo t env j
 | 0,_=>rfl
 | j+1,hj=>by
  have ih:=aP4 hs h0 env j (by omega);rw[T.valsTo,T.valsTo,ih,aKx t (by omega)]
  congr 2
  obtain⟨x,hx⟩:∃x,t[j]? =some x:=⟨_,zAB (by omega)⟩;have ha:=hs j x hx;rw[show t.getD j default=x from by rw[List.getD,hx];rfl];have hwd:∀i,T.wd (notT t) x i=T.wd t x i:=fun i=>aV1 (i:=j) (fun a h=>⟨(ha a h).1,by have:=(ha a h).2;omega⟩) i h0
  unfold T.val;rw[hwd]
theorem aO3{t:List Nd}{env:List Int}(h:aAb t=0)(hi:∀y∈t,0<=y.imm)(he:T.EnvOk t env):rv (notT t) env=1-rv t env:=by
 obtain⟨hv,hw⟩:=aBa h;obtain⟨v1,v2,v3,v4,v5⟩:=aBk hv;have hb:=aS1 h hi he;have hvt:=aP4 (t:=t) (fun i x hx=>(T.aAo (v3 i x hx)).2.2.2.2.2) v1 env t.length (zBJ _);obtain⟨n,hn⟩:∃n,t.length=n+1:=⟨t.length-1,by omega⟩;unfold rv at hb⊢;unfold T.vals at hb⊢;rw[aS7,show t.length+2-1=t.length+1 by omega];rw[T.valsTo,T.valsTo,hvt];obtain⟨vs,hvs⟩:∃vs,T.valsTo t env t.length=vs:=⟨_,rfl⟩;have hl:vs.length=t.length:=by rw[<-hvs];exact T.valsTo_len ..
 rw[hvs]at hb⊢;rw[show(notT t).getD t.length default=⟨0,1,0, [],0⟩from by rw[List.getD,aN9];rfl,show(notT t).getD (t.length+1) default=⟨14,1,0, [(t.length:Int)-1,(t.length:Int)],0⟩from by rw[List.getD,aOa];rfl];have e1:T.val (notT t) vs env ⟨0,1,0, [],0⟩=0:=rfl;rw[e1];have hle:(vs ++ [(0:Int)]).length=t.length+1:=by simp[hl]
 rw[<-hle,T.aL9];have e2:T.at_ (vs ++ [(0:Int)]) ⟨14,1,0, [(t.length:Int)-1,(t.length:Int)],0⟩ 0=vs.getD (t.length-1) 0:=by
  unfold T.at_;simp only[List.getD_cons_zero];rw[show((t.length:Int)-1).toNat=t.length-1 by omega,T.aNj (by omega)]
 have e3:T.at_ (vs ++ [(0:Int)]) ⟨14,1,0, [(t.length:Int)-1,(t.length:Int)],0⟩ 1=0:=by
  unfold T.at_;simp only[List.getD_cons_zero,List.getD_cons_succ];rw[zBA,<-hl,T.aL9]
 unfold T.val;rw[if_neg (by simp),if_neg (by simp),if_pos rfl,e2,e3];rcases hb with q | q <;> rw[q]
 ·rw[if_pos (by simp[T.cmp])];decide
 ·rw[if_neg (by simp[T.cmp])];decide
theorem bCx{t:List Nd}{env:List Int}(h:T.EnvOk (notT t) env):T.EnvOk t env:=⟨h.len,h.word,fun v z hz h0=>h.fit v z (by rw[aGf];exact hz) h0⟩
end Go.Proofs.YtchdbhggbdcapaaGreat.C
namespace Go.Proofs.YtchdbhggbdcapaaGreat
open _root_.Go.Proofs.Tryz
theorem aP5{t:List T.Nd}(hc:aAb t=0)(hi:∀y∈t,0<=y.imm):C.cntTo (C.notT t) (C.nEnv (C.notT t))=0↔C.cntTo t (C.nEnv t)=C.nEnv t:=by
 have ht:=(C.tm_of (aBa hc).1 hi).1;rw[C.aGy,C.aKh];have hn:C.nEnv (C.notT t)=C.nEnv t:=by unfold C.nEnv;rw[C.aGf]
 rw[hn];constructor
 ·intro h k hk;have h1:=h k hk;have h2:=aS1 hc hi (C.aDt ht k);rw[C.aGf,C.aO3 hc hi (C.aDt ht k)]at h1;omega
 ·intro h k hk;have h1:=h k hk;rw[C.aGf,C.aO3 hc hi (C.aDt ht k),h1];decide
theorem bEg{t:List T.Nd}{env:List Int}{e:C.E}(he:env=C.envOf t e)(h:C.rv t env=1):C.cntTo t (C.nEnv t)≠0:=by
 intro h0;obtain⟨k,hk,h2⟩:=C.aHw t e;exact(C.aGy t _).1 h0 k hk (by rw[<-h2,<-he];exact h)
end Go.Proofs.YtchdbhggbdcapaaGreat
end
namespace Go.Proofs.YtchdbhggbdcapaaGreat
open _root_.Go.Proofs.Tryz
section
open Go.RowKit
theorem aUq{W X:World}{g:Nat}(hr:X.heap[g]? =some (.cells #[] 56 (0,0)))(hg:W.heap.size<=g):OwnNd W.heap.size X (.slice (some ⟨g,0,none⟩) 0 0) []:=
 ⟨[],⟨by simp, .inr ⟨g,0,0, #[],rfl,hr,zBJ _,by simp[maxLen],by simp,fun j u h=>by simp at h⟩⟩,fun k x h=>by simp at h,fun g' h=>by simp[Value.ownBlock]at h;omega⟩
theorem bFm{W:World}{At:Option Addr}{n:Nat}{t:List T.Nd}(hT:StAt 5 NdR W At n t):∃us:List Value,us.length=n*5/\(∀u∈us,u.oneCell'=true)/\(∀(k:Nat) (x:T.Nd),t[k]? =some x->NdO W.heap.size W ((us.drop (k*5)).take 5) x)/\∀j u,us[j]? =some u->∃ad:Addr,At=some ad/\∀X,Below W.heap.size W X->X.cell? (ad.add j)=some u:=by
 have hln:=hT.len;have key:∀m,m<=n->∃us:List Value,us.length=m*5/\(∀u∈us,u.oneCell'=true)/\(∀(k:Nat) (x:T.Nd),k<m->t[k]? =some x->NdO W.heap.size W ((us.drop (k*5)).take 5) x)/\∀j u,us[j]? =some u->∃ad:Addr,At=some ad/\∀X,Below W.heap.size W X->X.cell? (ad.add j)=some u:=by
  intro m;induction m with
  | zero=>exact fun _=>⟨[],rfl,fun u hu=>by simp at hu,fun k x hk=>by omega,fun j u hu=>by simp at hu⟩
  | succ m ih=>
   intro hm;obtain⟨us,e1,e2,e3,e4⟩:=ih (by omega);obtain⟨x,b,off,vs,hx,hA,hlt,hl,hc,hR⟩:=hT.at_ (show m<n by omega);obtain⟨A,c,rfl,r1,r2,r3⟩:=id hR;refine⟨us ++ ndC x A c,by rw[zAX,e1,aV0];omega,fun u hu=>?_,fun k y hk hy=>?_,fun j u hu=>?_⟩
   ·rcases zBE.1 hu with hu | hu
    ·exact e2 u hu
    ·exact bEf x A c u hu
   ·by_cases hkm:k<m
    ·rw[List.drop_append_of_le_length (by omega),List.take_append_of_le_length (by rw[List.length_drop];omega)];exact e3 k y hkm hy
    ·obtain rfl:k=m:=by omega
     rw[hx]at hy;cases hy;rw[List.drop_append,List.drop_of_length_le (by omega),List.nil_append,e1,zBG,List.drop_zero,zAK (by rw[aV0];exact zBJ _)];exact hR.ndO (zBJ _)
   ·by_cases hj:j<us.length
    ·rw[zAE hj]at hu;exact e4 j u hu
    ·rw[zAF (by omega),e1]at hu;refine⟨_,hA,fun X hX=>?_⟩;have h1:=hc (j-m*5) u hu;rw[aBl,show off+j=off+m*5+(j-m*5) by omega];exact(hX.cell (p:=⟨b,off+m*5+(j-m*5),none⟩) hlt).trans h1
 obtain⟨us,e1,e2,e3,e4⟩:=key n (zBJ _);exact⟨us,e1,e2,fun k x hx=>e3 k x (by have:=(zAA.1 hx).1;omega) hx,e4⟩
theorem notNd{B g n:Nat}{X:World}(hr:X.heap[g]? =some (.cells #[.int .i64 ((n:Int)-1), .int .i64 (n:Int)] 3 (0,0))):NdO B X (ndC ⟨14,1,0, [(n:Int)-1,(n:Int)],0⟩ (some ⟨g,0,none⟩) 2) ⟨14,1,0, [(n:Int)-1,(n:Int)],0⟩:=
 ⟨_,2,rfl,aFk (l:= [(n:Int)-1,(n:Int)]) hr (by simp),Int.le_refl 0,(by show(0:Int) < 4294967296;decide),fun _ b off e=>by cases e;exact .inr ⟨_,_,hr⟩⟩
theorem bFn{B g n:Nat}{X:World}(hr:X.heap[g]? =some (.cells #[.int .i64 ((n:Int)-1), .int .i64 (n:Int)] 3 (0,0))):∀(k:Nat) (x:T.Nd), [(⟨0,1,0, [],0⟩:T.Nd),⟨14,1,0, [(n:Int)-1,(n:Int)],0⟩][k]? =some x->NdO B X ((([.int .i64 0, .int .i64 1, .int .i64 0, .slice none 0 0, .int .u32 0, .int .i64 14, .int .i64 1, .int .i64 0, .slice (some ⟨g,0,none⟩) 2 2, .int .u32 0]:List Value).drop (k*5)).take 5) x
 | 0,x,h=>by cases h;exact⟨none,0,rfl,SlAt.nil_ _,Int.le_refl 0,(by decide),fun h=>absurd rfl h⟩
 | 1,x,h=>by cases h;exact notNd hr
 | k+2,x,h=>by simp at h
theorem bAa{t:List T.Nd}{W w':World}{e:Ending}(hc:aAb t=0)(hi:∀y∈t,0<=y.imm)(h:aKu t W e w'):Below W.heap.size W w'/\∃A m c is er,e= .returned (.tuple #[.slice A m c, .bool is, .int .i64 er])/\(er=3\/(er=0/\(is=true↔C.cntTo t (C.nEnv t)=C.nEnv t))):=by
 obtain⟨hb,⟨hno,_⟩ |⟨_,hno,rfl⟩ |⟨_,c,hbs,hB,⟨m,_,hm,rfl⟩ |⟨A2,c2,l,hf,hl,hk,hsl,rfl⟩ |⟨_,_,rfl⟩⟩⟩:=h
 ·exact absurd hc hno
 ·exact⟨hb,_,_,_,_,_,rfl, .inl rfl⟩
 ·exact⟨hb,_,_,_,_,_,rfl, .inr ⟨rfl,⟨fun h=>(by cases h),fun h=>absurd h (aH6 hc hi hbs hm)⟩⟩⟩
 ·exact⟨hb,_,_,_,_,_,rfl, .inr ⟨rfl,⟨fun _=>aH7 hc hi hbs hf (fun k hk'=>(hk k hk').1),fun _=>rfl⟩⟩⟩
 ·exact⟨hb,_,_,_,_,_,rfl, .inl rfl⟩
theorem bCy{t:List T.Nd}{W w':World}{e:Ending}(hc:aAb t=0)(hi:∀y∈t,0<=y.imm)(h:FindE t W e w'):Below W.heap.size W w'/\∃A m c is er,e= .returned (.tuple #[.slice A m c, .bool is, .int .i64 er])/\(er=3\/(er=0/\(is=false->C.cntTo t (C.nEnv t)=0)/\(is=true->C.cntTo t (C.nEnv t)≠0/\m=4/\∃env,SlAt (IntR .u32) w' A 4 env/\T.EnvOk t env/\C.rv t env=1))):=by
 obtain⟨hb,⟨hno,_⟩ |⟨_,hno,rfl⟩ |⟨_,c,hbs,hB,⟨A2,c2,m,_,hm,rfl,hsl⟩ |⟨l,hf,hk,rfl⟩ |⟨_,_,rfl⟩⟩⟩:=h
 ·exact absurd hc hno
 ·exact⟨hb,_,_,_,_,_,rfl, .inl rfl⟩
 ·obtain⟨h1,h2⟩:=aN8 hc hi hbs hm;exact⟨hb,_,_,_,_,_,rfl, .inr ⟨rfl,fun h=>(by cases h),fun _=>⟨bEg rfl h1,rfl,_,hsl,h2,h1⟩⟩⟩
 ·exact⟨hb,_,_,_,_,_,rfl, .inr ⟨rfl,fun _=>aP3 hc hi hbs hf hk,fun h=>(by cases h)⟩⟩
 ·exact⟨hb,_,_,_,_,_,rfl, .inl rfl⟩
theorem aMw(t:List T.Nd)(n ct:Nat)(At:Option Addr)(W:World)(hT:StAt 5 NdR W At n t):
 Calls prog 8 #[.slice At n ct] W fun e W'=>e= .returned (.bool true)/\Below W.heap.size W W':=by
 have HT:=kH hT;have Hi:=kH (aBq hT);have HL:=kH (aFj t n ct At W hT);have HRC:=kH (fun X (hX:Below W.heap.size W X)=>aEc t n ct At X (hT.below aAh hX));have Hln:=kH hT.len;have hle:=hT.le;obtain⟨ce,hce⟩:∃x,aAb t=x:=⟨_,rfl⟩;have Hce:=kH hce;rw[hce]at HRC;clear hT hce
 go_enter func8,ntmps8
 go_wp2_with fail
 refine HL.out.mono ?_;rintro e w1 ⟨hb1,rfl |⟨rfl,hn24⟩⟩
 ·have Hb1:=kH hb1;have HKn:=kH (aAt w1);clear hb1 HL
  go_wp2_with fail
  refine HKn.out.mono ?_;rintro e w5 ⟨rfl,hb5⟩;have Hb5:=kH (Hb1.out.trans (hb5.mono Hb1.out.size));clear hb5 HKn;go_wp2;go_ret;exact⟨rfl,Hb5.out⟩
 ·have Hb1:=kH hb1;have HRk:=kH (HRC.out w1 hb1);have Hn24:=kH hn24;clear hb1 HL HRC hn24
  go_wp2_with fail
  refine HRk.out.mono ?_;rintro e w2 ⟨rfl,hb2⟩;have hb2':=Hb1.out.trans (hb2.mono Hb1.out.size);have Hb2:=kH hb2';clear hb2 hb2' HRk
  by_cases h0:ce=0
  case neg=>
   have hq:(ce == 0)=false:=by simpa using h0
   have hq2:(ce != 0)=true:=by simpa using h0
   have HKn:=kH (aAt w2);clear h0
   go_wp2_with fail
   refine HKn.out.mono ?_;rintro e w5 ⟨rfl,hb5⟩;have Hb5:=kH (Hb2.out.trans (hb5.mono Hb2.out.size));clear hb5 HKn;go_wp2;go_ret;exact⟨rfl,Hb5.out⟩
  case pos=>
  subst h0;have h1n:1<=n:=by
   have:=(aBk (aBa Hce.out).1).1;rw[Hln.out]at this;exact this
  have hwi:IntKind.i64.wrap ((n:Int)-1+1)=(n:Int):=by rw[IntWalk.i64_in _ (by omega)];omega
  obtain⟨us,hul,hu1,hund,husrc⟩:=bFm HT.out;have Hu:=kH (And.intro hul (And.intro hu1 (And.intro hund husrc)));clear hul hu1 hund husrc
  go_upto_region 4 with(fail)
  go_wp2_with (first
   |(at_builtin;refine aFz rfl (.tmp 24) (.tmp 25) rfl W.heap.size _ [] rfl (aUq (heap_alloc_new _ _) Hb2.out.size) n us t Hln.out Hu.out.1 (fun k x hx=>(Hu.out.2.2.1 k x hx).below (Hb2.out.alloc Hb2.out.size _)) Hu.out.2.1 At ct rfl ?c1 ?c2 ?c3 ?_;(case c1=>exact fun j u hu=>(Hu.out.2.2.2 j u hu).imp fun ad h=>⟨h.1,h.2 _ (Hb2.out.alloc Hb2.out.size _)⟩);(case c2=>have:=Hn24.out;simp;omega);(case c3=>exact(Hb2.out.alloc Hb2.out.size _).size);intro v1 w4 hown hgr hat hbb;obtain⟨A1,c1,rfl⟩:=hown.form;have Hown:=kH hown;have Hb4:=kH (hbb _ (Hb2.out.alloc Hb2.out.size _));clear hown hgr hat hbb)
   |(at_builtin;refine aFz rfl (.tmp 26) (.tmp 33) rfl W.heap.size _ t rfl ?e1 2 [.int .i64 0, .int .i64 1, .int .i64 0, .slice none 0 0, .int .u32 0, .int .i64 14, .int .i64 1, .int .i64 0, .slice (some ⟨w4.heap.size,0,none⟩) 2 2, .int .u32 0] [⟨0,1,0, [],0⟩,⟨14,1,0, [(n:Int)-1,(n:Int)],0⟩] rfl rfl ?e2 ?d0 _ 2 rfl ?d1 ?d2 ?d3 ?_;(case e1=>exact Hown.out.below ((al0).alloc (by simp) _));(case e2=>exact bFn (aA1 (heap_alloc_new w4 _) _));(case d0=>exact fun u hu=>zAD.1 (show List.all _ (fun u:Value=>u.oneCell')=true from rfl) u hu);(case d1=>exact aZ9 (aC2 w4 _ _));(case d2=>have:=Hn24.out;have:=Hln.out;omega);(case d3=>have:=Hb4.out.size;simp;omega);intro v' w5 hown hgr hat hbb;have Hown5:=kH hown;have Hb5:=kH (hbb _ ((Hb4.out.alloc Hb4.out.size _).alloc (by have:=Hb4.out.size;simp;omega) _));clear hown hgr hat hbb))
  have hown5:=Hown5.out;have hl:(t ++ [(⟨0,1,0, [],0⟩:T.Nd),⟨14,1,0, [(n:Int)-1,(n:Int)],0⟩]).length=n+2:=by rw[zAX,Hln.out];rfl
  have hnt:t ++ [(⟨0,1,0, [],0⟩:T.Nd),⟨14,1,0, [(n:Int)-1,(n:Int)],0⟩]=C.notT t:=by unfold C.notT;rw[Hln.out,zBT];rfl
  obtain⟨A5,c5,rfl⟩:=hown5.form;rw[hl]at hown5⊢;rw[hnt]at hown5 hl;have Hst:=kH (hown5.stAt hl);have Hcn:=kH (C.aXw Hce.out (by rw[Hln.out];exact Hn24.out));have HP:=kH (aKv t n ct At w5 (HT.out.below aAh Hb5.out));clear hown5 hl hnt Hown5 Hown Hb4 Hu
  go_wp2_with fail
  refine HP.out.mono ?_;rintro e w6 hpe;obtain⟨hb6,A6,m6,c6,is,er,rfl,hdec⟩:=bAa Hce.out Hi.out hpe;have HF:=kH (aS6 (C.notT t) (n+2) c5 A5 w6 (Hst.out.below aAh hb6));have Hdec:=kH hdec;have Hb6:=kH (Hb5.out.trans (hb6.mono Hb5.out.size));clear hpe hb6 hdec HP
  go_wp2_with fail
  refine HF.out.mono ?_;rintro e w7 hfe;obtain⟨hb7,A7,m7,c7,some_,fr,rfl,hdf⟩:=bCy Hcn.out (C.bCw Hi.out) hfe;have Hb7:=kH (Hb6.out.trans (hb7.mono Hb6.out.size));clear hfe hb7 HF;rcases Hdec.out with rfl |⟨rfl,hd⟩
  ·clear Hdec;rcases hdf with rfl |⟨rfl,_,_⟩
   ·have HKn:=kH (aAt w7)
    go_wp2_with fail
    refine HKn.out.mono ?_;rintro e wk ⟨rfl,hbk⟩;have Hbk:=kH (Hb7.out.trans (hbk.mono Hb7.out.size));clear hbk HKn;go_wp2;go_ret;exact⟨rfl,Hbk.out⟩
   ·have HKn:=kH (aAt w7)
    go_wp2_with fail
    refine HKn.out.mono ?_;rintro e wk ⟨rfl,hbk⟩;have Hbk:=kH (Hb7.out.trans (hbk.mono Hb7.out.size));clear hbk HKn;go_wp2;go_ret;exact⟨rfl,Hbk.out⟩
  ·have Hd:=kH hd;clear Hdec hd;rcases hdf with rfl |⟨rfl,hf0,hf1⟩
   ·have HKn:=kH (aAt w7)
    go_wp2_with fail
    refine HKn.out.mono ?_;rintro e wk ⟨rfl,hbk⟩;have Hbk:=kH (Hb7.out.trans (hbk.mono Hb7.out.size));clear hbk HKn;go_wp2;go_ret;exact⟨rfl,Hbk.out⟩
   ·cases some_
    ·obtain rfl:is=true:=Hd.out.2 ((aP5 Hce.out Hi.out).1 (hf0 rfl));clear hf0 hf1;have HKn:=kH (aAt w7)
     go_wp2_with fail
     refine HKn.out.mono ?_;rintro e wk ⟨rfl,hbk⟩;have Hbk:=kH (Hb7.out.trans (hbk.mono Hb7.out.size));clear hbk HKn;go_wp2;go_ret;exact⟨rfl,Hbk.out⟩
    ·obtain⟨hne,rfl,env,hsl,hok,hrv⟩:=hf1 rfl;obtain rfl:is=false:=by
      cases is
      ·rfl
      ·exact absurd ((aP5 Hce.out Hi.out).2 (Hd.out.1 rfl)) hne
     have hok2:=C.bCx hok;have hr0:C.rv t env=0:=by
      have h1:=C.aO3 Hce.out Hi.out hok2;omega
     have HE:=kH (aJc t env n ct c7 At A7 w7 (HT.out.below aAh Hb7.out) hsl (aBa Hce.out).1 hok2);rw[hr0]at HE;clear hf0 hf1 hne hsl hok hrv hok2 hr0
     go_wp2_with fail
     refine HE.out.mono ?_;rintro e w8 ⟨rfl,hb8⟩;have hb8':=Hb7.out.trans (hb8.mono Hb7.out.size);have Hb8:=kH hb8';clear hb8 hb8' HE;have HKn:=kH (aAt w8)
     go_wp2_with fail
     refine HKn.out.mono ?_;rintro e wk ⟨rfl,hbk⟩;have Hbk:=kH (Hb8.out.trans (hbk.mono Hb8.out.size));clear hbk HKn;go_wp2;go_ret;exact⟨rfl,Hbk.out⟩
end
end Go.Proofs.YtchdbhggbdcapaaGreat
