/- Part. -/
import Derived.Test.YtchdbhggbdcapaaGreatSuLX
import Derived.Test.YtchdbhggbdcapaaGreatSu07
set_option linter.unusedVariables false
set_option linter.unusedSimpArgs false
set_option maxRecDepth 100000
set_option maxHeartbeats 16000000
namespace Go.Proofs.YtchdbhggbdcapaaGreat
open _root_.Go.Proofs.Tryz
section
open Go.RowKit
def wdL(t:List T.Nd)(l:List Int):List Int:=l.map fun a=>(t.getD a.toNat default).w
theorem bE3{t:List T.Nd}{x:T.Nd}{i:Nat}(h:i<x.args.length):(wdL t x.args)[i]? =some (T.wd t x i):=by
 unfold wdL T.wd;rw[zAW,zAB h,show x.args.getD i 0=x.args[i]from aAi (zAB h)];rfl
theorem aWm(t:List T.Nd)(x:T.Nd)(n ct:Nat)(At A:Option Addr)(c:Nat)(W:World)(hT:StAt 5 NdR W At n t)(hA:SlAt (IntR .i64) W A x.args.length x.args)(hlen:(x.args.length:Int)=T.ar x.op)(har:0<=T.ar x.op)(harg:∀a∈x.args,0<=a/\a<(n:Int)):
 Calls prog 73 #[.slice At n ct,ndV x A c] W fun e w'=>e= .returned (.bool (T.typed t x))/\Below W.heap.size W w':=by
 obtain⟨W1,hW1⟩:∃W1,W1=W.alloc (.cells #[.int .i64 x.op, .int .i64 x.w, .int .i64 x.fl, .slice A x.args.length c, .int .u32 x.imm] 56):=⟨_,rfl⟩;have hB1:Below W.heap.size W W1:=by rw[hW1];exact al0
 have hr1:W1.heap[W.heap.size]? =some (.cells #[.int .i64 x.op, .int .i64 x.w, .int .i64 x.fl, .slice A x.args.length c, .int .u32 x.imm] 56 (0,0)):=by rw[hW1];exact heap_alloc_new W _
 have hs1:W1.heap.size=W.heap.size+1:=by rw[hW1];simp
 have HX:=kH (show∀Y:World,Below W1.heap.size W1 Y->Y.cell? ⟨W.heap.size,0,none⟩=some (.int .i64 x.op)/\Y.cell? ⟨W.heap.size,1,none⟩=some (.int .i64 x.w)/\Y.cell? ⟨W.heap.size,3,none⟩=some (.slice A x.args.length c)from fun Y hY=>by
  have h1:=aBt (kH hY) hr1;refine⟨?_,?_,?_⟩
  all_goals rw[cell_of_row _ _ _ _ _ (0,0) h1];rfl)
 have HT:=kH (hT.below aAh hB1);have HA:=kH (hA.below (aAd _) hB1);have HB1:=kH hB1;have Hs1:=kH hs1;have Harg:=kH harg;have hle:=hT.le;have hle2:=hA.le;have hm3:x.args.length<=3:=by
  rcases aIk x.op with h | h | h | h | h | h <;> omega
 have HF:Hid (∀s,s=T.typed t x->s=T.typed t x):=fun s h=>h
 obtain⟨sh,hsh⟩:∃sh,sh=T.typed t x:=⟨_,rfl⟩;rw[<-hsh];have Hsh:=kH hsh;have Hlen:=kH hlen;have Har:=kH har;have HWd:=kH (fun i (h:i<x.args.length)=>bE3 (t:=t) h);obtain⟨Wd,hWd⟩:∃Wd:Nat->Int,Wd=T.wd t x:=⟨_,rfl⟩;have HWde:=kH hWd;rw[<-hWd]at HWd;clear hT hA hB1 hr1 hs1 hsh HF hlen har harg hWd;rw[show ndV x A c= .agg #[.int .i64 x.op, .int .i64 x.w, .int .i64 x.fl, .slice A x.args.length c, .int .u32 x.imm]from rfl];obtain⟨x0,x1,x3⟩:=HX.out W1 (Below.refl _ _);obtain⟨xs,hxs⟩:∃xs,xs=x.args:=⟨_,rfl⟩;rw[<-hxs]at HX HA Harg HWd hle2 hm3 Hlen hW1 x3⊢;have Hxs:=kH hxs;clear hxs;generalize hm:xs.length=m at HX HA HWd hle2 hm3 Hlen hW1 x3⊢;have Hm:=kH hm;clear hm
 go_enter func73,ntmps73
 rw[hW1]at x0 x1 x3;go_wp2;rw[<-hW1]at x0 x1 x3⊢;clear hW1 x0 x1 x3
 go_loopg [5,6] (m+1) (fun g v i wr=>∃(j:Nat),j<=m/\i= .int .i64 (j:Int)/\g+j=m+1/\OwnAt wr 3 1 v j (((wdL t xs).take j).map (Value.int .i64))/\Below W1.heap.size W1 wr/\(∀g,v.ownBlock=some g->W1.heap.size<=g))
 case atStart=>exact⟨0,zBL _,rfl,rfl,OwnAt.nil_ _ _ _,Below.refl _ _,fun g hg=>by simp[Value.ownBlock]at hg⟩
 case round=>
  obtain⟨j,hj,rfl,hgk,hown,hbw,hob⟩:=hrel;have Hgk:=kH hgk;clear hgk;have Hown:=kH hown;clear hown;have Hob:=kH hob;clear hob;obtain⟨x0,x1,x3⟩:=HX.out wr hbw
  by_cases hlt:j<m
  ·obtain⟨y,b,off,u,hy,rfl,hb,hc,hu⟩:=(HA.out.below (aAd _) hbw).at_ hlt;have hu':u= .int .i64 y:=hu;subst hu';have hay:=Harg.out y (zAC hy);obtain⟨p,rfl⟩:∃p:Nat,y=p:=⟨y.toNat,by omega⟩;have hp:p<n:=by omega
   obtain⟨z,b2,off2,A2,c2,hz,rfl,_,_,hw2,_⟩:=aBf (HT.out.below aAh hbw) (j:=p) hp;have Hz:=kH (show(wdL t xs)[j]? =some z.w from by unfold wdL;rw[zAW,hy];simp only[Option.map_some,zBA];rw[aAi hz]);obtain⟨zw,hzw⟩:∃zw,zw=z.w:=⟨_,rfl⟩;rw[<-hzw]at Hz hw2;have Hbw:=kH hbw;clear hy hu hz hzw hay hbw hb
   go_wp2_with (at_builtin;refine wpList_append_one' rfl (.tmp 14) (.tmp 24) 37 rfl 3 (.int .i64 0) 8 underlying37 infoInt rfl _ j _ rfl Hown.out (.int .i64 zw) rfl 3 wr.heap.size rfl rfl (by omega) (by omega) ?_;intro v' w3 hown' hgr hat)
   have Hown':=kH (show OwnAt w3 3 1 v' (j+1) (((wdL t xs).take (j+1)).map (Value.int .i64))from by rw[K.aFl Hz.out,zBS];exact hown');obtain⟨hb3,hv3⟩:=aCb Hbw.out Hbw.out.size Hob.out hgr hat;have Hv3:=kH hv3;have Hb3:=kH hb3;clear hown' hgr hat hb3 hv3 x0 x1 x3;go_wp2
   go_roundg (gk-1)
   case measure=>have:=Hgk.out;omega
   case rel=>have:=Hgk.out;exact⟨j+1,by omega,by go_num,by omega,Hown'.out,Hb3.out,Hv3.out⟩
  ·obtain rfl:j=m:=by omega
   have hwl:(wdL t xs).length=j:=by unfold wdL;rw[zAY];exact Hm.out
   have hown:=Hown.out;rw[zAK (by omega)]at hown;have Hb9:=kH (HB1.out.trans (hbw.mono (by have:=Hs1.out;omega)));obtain⟨Av,cv,hv⟩:=hown.form;subst hv;have HL:=kH (show∀i,i<j->∃g off,Av=some ⟨g,off,none⟩/\wr.cell? ⟨g,off+i,none⟩=some (.int .i64 (Wd i))from fun i hi=>by
    obtain⟨y,g,off,u,hy,hA,_,hc,hu⟩:=hown.slInts.at_ hi;have hu':u= .int .i64 y:=hu;subst hu';rw[HWd.out i hi]at hy;cases hy;exact⟨g,off,hA,hc⟩)
   clear hown hwl hbw Hown Hob;rcases aLr x.op with h | h | h | h | h | h | h
   ·have hj2:(j:Int)=2:=by rw[Hlen.out];unfold T.ar;rw[if_neg (by omega),if_pos (by omega)]
    have hjn:j=2:=by omega
    subst hjn;clear hj2;have hop0:(x.op == 0)=false:=by simp;omega
    have hop1:(x.op == 33)=false:=by simp;omega
    have hop14:(x.op == 14)=false:=by simp;omega
    have hop15:(x.op == 15)=false:=by simp;omega
    have hop16:(x.op == 16)=false:=by simp;omega
    have hop17:(x.op == 17)=false:=by simp;omega
    have hop18:(x.op == 18)=false:=by simp;omega
    obtain⟨g,off,hAv,l0⟩:=HL.out 0 (by omega);rw[zBI]at l0;obtain⟨g1,off1,hA1,l1⟩:=HL.out 1 (by omega);rw[hAv]at hA1;injection hA1 with hA1
    injection hA1 with e1 e2
    subst e1 e2;subst hAv;obtain⟨a0,ha0⟩:∃a0,a0=Wd 0:=⟨_,rfl⟩;rw[<-ha0]at l0;obtain⟨a1,ha1⟩:∃a1,a1=Wd 1:=⟨_,rfl⟩;rw[<-ha1]at l1;have h9:=Hsh.out;rw[aRw h,<-HWde.out,<-ha0,<-ha1]at h9;clear ha0 ha1;clear h
    by_cases e0:a0=x.w
    ·have z0:(a0 == x.w)=true:=by simpa using e0
     have Hf:=kH (show sh=(a1 == x.w)from by rw[h9,zBO e0,Bool.true_and];by_cases h:a1=x.w <;> simp[h]);clear e0 h9;go_wp2
     go_quiet (fail)
     go_wp2;go_ret;exact⟨aA0 Hf.out.symm,Hb9.out.dr ⟨_,rfl⟩⟩
    ·have z0:(a0 == x.w)=false:=by simpa using e0
     have Hf:=kH (show sh=false from by rw[h9,zBP e0,Bool.false_and]);clear e0 h9;go_wp2
     go_quiet (fail)
     go_wp2;go_ret;exact⟨aA0 Hf.out.symm,Hb9.out.dr ⟨_,rfl⟩⟩
   ·have hj2:(j:Int)=2:=by rw[Hlen.out];unfold T.ar;rw[if_neg (by omega),if_pos (by omega)]
    have hjn:j=2:=by omega
    subst hjn;clear hj2;have hop0:(x.op == 0)=false:=by simp;omega
    have hop1:(x.op == 33)=false:=by simp;omega
    have hop14:(x.op == 14)=true:=by simp;omega
    obtain⟨g,off,hAv,l0⟩:=HL.out 0 (by omega);rw[zBI]at l0;obtain⟨g1,off1,hA1,l1⟩:=HL.out 1 (by omega);rw[hAv]at hA1;injection hA1 with hA1
    injection hA1 with e1 e2
    subst e1 e2;subst hAv;obtain⟨a0,ha0⟩:∃a0,a0=Wd 0:=⟨_,rfl⟩;rw[<-ha0]at l0;obtain⟨a1,ha1⟩:∃a1,a1=Wd 1:=⟨_,rfl⟩;rw[<-ha1]at l1;have h9:=Hsh.out;rw[aRx h,<-HWde.out,<-ha0,<-ha1]at h9;clear ha0 ha1;have Hf:=kH (show sh=(a0 == a1)from by rw[h9];by_cases h:a0=a1 <;> simp[h]);clear h h9;go_wp2
    go_quiet (fail)
    go_wp2;go_ret;exact⟨aA0 Hf.out.symm,Hb9.out.dr ⟨_,rfl⟩⟩
   ·have hj3:(j:Int)=3:=by rw[Hlen.out];unfold T.ar;rw[if_neg (by omega),if_neg (by omega),if_pos (by omega)]
    have hjn:j=3:=by omega
    subst hjn;clear hj3;have hop0:(x.op == 0)=false:=by simp;omega
    have hop1:(x.op == 33)=false:=by simp;omega
    have hop14:(x.op == 14)=false:=by simp;omega
    have hop15:(x.op == 15)=true:=by simp;omega
    obtain⟨g,off,hAv,l0⟩:=HL.out 0 (by omega);rw[zBI]at l0;obtain⟨g1,off1,hA1,l1⟩:=HL.out 1 (by omega);rw[hAv]at hA1;injection hA1 with hA1
    injection hA1 with e1 e2
    subst e1 e2;obtain⟨g2,off2,hA2,l2⟩:=HL.out 2 (by omega);rw[hAv]at hA2;injection hA2 with hA2
    injection hA2 with e1 e2
    subst e1 e2;subst hAv;obtain⟨a0,ha0⟩:∃a0,a0=Wd 0:=⟨_,rfl⟩;rw[<-ha0]at l0;obtain⟨a1,ha1⟩:∃a1,a1=Wd 1:=⟨_,rfl⟩;rw[<-ha1]at l1;obtain⟨a2,ha2⟩:∃a2,a2=Wd 2:=⟨_,rfl⟩;rw[<-ha2]at l2;have h9:=Hsh.out;rw[aRy h,<-HWde.out,<-ha0,<-ha1,<-ha2]at h9;clear ha0 ha1 ha2;clear h
    by_cases e0:a0=1
    ·have z0:(a0 == 1)=true:=by simpa using e0
     by_cases e1:a1=x.w
     ·have z1:(a1 == x.w)=true:=by simpa using e1
      have Hf:=kH (show sh=(a2 == x.w)from by rw[h9,zBO e0,zBO e1,Bool.true_and,Bool.true_and];by_cases h:a2=x.w <;> simp[h]);clear e0 e1 h9;go_wp2
      go_quiet (fail)
      go_wp2;go_ret;exact⟨aA0 Hf.out.symm,Hb9.out.dr ⟨_,rfl⟩⟩
     ·have z1:(a1 == x.w)=false:=by simpa using e1
      have Hf:=kH (show sh=false from by rw[h9,zBP e1,Bool.and_false,Bool.false_and]);clear e0 e1 h9;go_wp2
      go_quiet (fail)
      go_wp2;go_ret;exact⟨aA0 Hf.out.symm,Hb9.out.dr ⟨_,rfl⟩⟩
    ·have z0:(a0 == 1)=false:=by simpa using e0
     have Hf:=kH (show sh=false from by rw[h9,zBP e0,Bool.false_and,Bool.false_and]);clear e0 h9;go_wp2
     go_quiet (fail)
     go_wp2;go_ret;exact⟨aA0 Hf.out.symm,Hb9.out.dr ⟨_,rfl⟩⟩
   ·have hj1:(j:Int)=1:=by rw[Hlen.out];unfold T.ar;rw[if_neg (by omega),if_neg (by omega),if_neg (by omega),if_pos (by omega)]
    have hjn:j=1:=by omega
    subst hjn;clear hj1;have hop0:(x.op == 0)=false:=by simp;omega
    have hop1:(x.op == 33)=false:=by simp;omega
    have hop14:(x.op == 14)=false:=by simp;omega
    have hop15:(x.op == 15)=false:=by simp;omega
    have hop16:(x.op == 16)=true:=by simp;omega
    obtain⟨g,off,hAv,l0⟩:=HL.out 0 (by omega);rw[zBI]at l0;subst hAv;obtain⟨a0,ha0⟩:∃a0,a0=Wd 0:=⟨_,rfl⟩;rw[<-ha0]at l0;have h9:=Hsh.out;rw[aIo (.inl h),<-HWde.out,<-ha0]at h9;clear ha0;have Hf:=kH (show sh=decide (a0<x.w)from h9);clear h h9;go_wp2
    go_quiet (fail)
    go_wp2;go_ret;exact⟨aA0 Hf.out.symm,Hb9.out.dr ⟨_,rfl⟩⟩
   ·have hj1:(j:Int)=1:=by rw[Hlen.out];unfold T.ar;rw[if_neg (by omega),if_neg (by omega),if_neg (by omega),if_pos (by omega)]
    have hjn:j=1:=by omega
    subst hjn;clear hj1;have hop0:(x.op == 0)=false:=by simp;omega
    have hop1:(x.op == 33)=false:=by simp;omega
    have hop14:(x.op == 14)=false:=by simp;omega
    have hop15:(x.op == 15)=false:=by simp;omega
    have hop16:(x.op == 16)=false:=by simp;omega
    have hop17:(x.op == 17)=true:=by simp;omega
    obtain⟨g,off,hAv,l0⟩:=HL.out 0 (by omega);rw[zBI]at l0;subst hAv;obtain⟨a0,ha0⟩:∃a0,a0=Wd 0:=⟨_,rfl⟩;rw[<-ha0]at l0;have h9:=Hsh.out;rw[aIo (.inr h),<-HWde.out,<-ha0]at h9;clear ha0;have Hf:=kH (show sh=decide (a0<x.w)from h9);clear h h9;go_wp2
    go_quiet (fail)
    go_wp2;go_ret;exact⟨aA0 Hf.out.symm,Hb9.out.dr ⟨_,rfl⟩⟩
   ·have hj1:(j:Int)=1:=by rw[Hlen.out];unfold T.ar;rw[if_neg (by omega),if_neg (by omega),if_neg (by omega),if_pos (by omega)]
    have hjn:j=1:=by omega
    subst hjn;clear hj1;have hop0:(x.op == 0)=false:=by simp;omega
    have hop1:(x.op == 33)=false:=by simp;omega
    have hop14:(x.op == 14)=false:=by simp;omega
    have hop15:(x.op == 15)=false:=by simp;omega
    have hop16:(x.op == 16)=false:=by simp;omega
    have hop17:(x.op == 17)=false:=by simp;omega
    have hop18:(x.op == 18)=true:=by simp;omega
    obtain⟨g,off,hAv,l0⟩:=HL.out 0 (by omega);rw[zBI]at l0;subst hAv;obtain⟨a0,ha0⟩:∃a0,a0=Wd 0:=⟨_,rfl⟩;rw[<-ha0]at l0;have h9:=Hsh.out;rw[aRz h,<-HWde.out,<-ha0]at h9;clear ha0;have Hf:=kH (show sh=decide (x.w<a0)from h9);clear h h9;go_wp2
    go_quiet (fail)
    go_wp2;go_ret;exact⟨aA0 Hf.out.symm,Hb9.out.dr ⟨_,rfl⟩⟩
   ·have Hf:=kH (show sh=true from by rw[Hsh.out,aNh h]);have h033:x.op=0\/x.op=33:=by
     have:=Har.out;rcases aIk x.op with h1 | h1 | h1 | h1 | h1 | h1 <;> omega
    clear h;rcases h033 with h | h
    ·have hop0:(x.op == 0)=true:=by simpa using h
     clear h;go_wp2;go_ret;exact⟨aA0 Hf.out.symm,Hb9.out⟩
    ·have hop0:(x.op == 0)=false:=by simp;omega
     have hop1:(x.op == 33)=true:=by simpa using h
     clear h;go_wp2;go_ret;exact⟨aA0 Hf.out.symm,Hb9.out⟩
def NoCl(t:List T.Nd)(k i:Nat):Prop:=∀(p q:Nat) (x y:T.Nd),p<q->(q<k\/(q=k/\p<i))->t[p]? =some x->t[q]? =some y->T.clash x y=false
theorem NoCl.zero(t:List T.Nd):NoCl t 0 0:=fun p q x y h1 h2=>by omega
theorem NoCl.row{t:List T.Nd}{k:Nat}(h:NoCl t k k):NoCl t (k+1) 0:=fun p q x y h1 h2 hx hy=>h p q x y h1 (by omega) hx hy
theorem NoCl.next{t:List T.Nd}{k i:Nat}{x y:T.Nd}(h:NoCl t k i)(hx:t[i]? =some x)(hy:t[k]? =some y)(hc:T.clash x y=false):NoCl t k (i+1):=fun p q a b h1 h2 ha hb=>by
 by_cases e:q=k/\p=i
 ·obtain⟨rfl,rfl⟩:=e;rw[hx]at ha;rw[hy]at hb;cases ha;cases hb;exact hc
 ·exact h p q a b h1 (by omega) ha hb
theorem NoCl.all{t:List T.Nd}{k:Nat}(h:NoCl t k 0)(hk:t.length<=k):T.aAw t=false:=T.aB9.2 fun i j x y hij hx hy=>h i j x y hij (.inl (by have:=(zAA.1 hy).1;omega)) hx hy
theorem aTo{t:List T.Nd}{i k:Nat}{x y:T.Nd}(hik:i<k)(hx:t[i]? =some x)(hy:t[k]? =some y)(hc:T.clash x y=true):T.aAw t=true:=by
 cases e:T.aAw t
 ·have:=T.aB9.1 e i k x y hik hx hy;rw[hc]at this;cases this
 ·rfl
theorem aTp(x y:T.Nd):(T.clash x y=false/\(x.op == 33)=false)\/(T.clash x y=false/\(x.op == 33)=true/\(y.op == 33)=false)\/(T.clash x y=false/\(x.op == 33)=true/\(y.op == 33)=true/\(x.imm == y.imm)=false)\/
 (T.clash x y=false/\(x.op == 33)=true/\(y.op == 33)=true/\(x.imm == y.imm)=true/\(x.w != y.w)=false)\/(T.clash x y=true/\(x.op == 33)=true/\(y.op == 33)=true/\(x.imm == y.imm)=true/\(x.w != y.w)=true):=by
 unfold T.clash
 by_cases h1:x.op=33 <;> by_cases h2:y.op=33 <;> by_cases h3:x.imm=y.imm <;> by_cases h4:x.w=y.w <;> simp[h1,h2,h3,h4]
theorem aR2(z:Bool)(t:List T.Nd)(n ct:Nat)(At:Option Addr)(W:World)(hT:StAt 5 NdR W At n t):
 Calls prog 45 #[.slice At n ct, .bool z] W fun e w'=>e= .returned (.int .i64 (T.valid z t))/\Below W.heap.size W w':=by
 have HT:=kH hT;have hle:=hT.le;have hlen:=hT.len;clear hT
 by_cases hsz:t.length<1\/300<t.length
 ·have hv:T.valid z t=3:=by unfold T.valid;rw[if_pos hsz]
  rw[hv];rw[hlen]at hsz;clear hv hlen
  by_cases h0:n<1
  ·have q0:decide ((n:Int) < 1)=true:=by simp;omega
   clear hsz
   go_enter func45,ntmps45
   go_wp2;go_ret;exact⟨rfl,Below.refl _ _⟩
  ·have q0:decide ((n:Int) < 1)=false:=by simp;omega
   have q1:decide (300<(n:Int))=true:=by simp;omega
   clear hsz
   go_enter func45,ntmps45
   go_wp2;go_ret;exact⟨rfl,Below.refl _ _⟩
 ·have Hv:=kH (show T.valid z t=if(t.zipIdx.all fun p=>T.aAq z p.2 p.1)=false then 1 else if(t.all (T.typed t))=false then 6 else if T.aAw t=true then 7 else 0 from by unfold T.valid;rw[if_neg hsz]);rw[hlen]at hsz;have q0:decide ((n:Int) < 1)=false:=by simp;omega
  have q1:decide (300<(n:Int))=false:=by simp;omega
  have hn:n<=300:=by omega
  have Hlen:=kH hlen;clear hsz hlen
  go_enter func45,ntmps45
  go_wp2
  try simp only[q0,q1]
  clear q0 q1
  go_loopg [5] (n+1) (fun g i wr=>∃(j:Nat),j<=n/\i= .int .i64 (j:Int)/\g+j=n+1/\Below W.heap.size W wr/\Hid (T.aE4 z t j))
  case atStart=>exact⟨0,zBL _,rfl,rfl,Below.refl _ _,fun i x hi=>by omega⟩
  case round=>
   obtain⟨j,hj,rfl,hgk,hbw,HS⟩:=hrel;have Hgk:=kH hgk;clear hgk
   by_cases hlt:j<n
   ·obtain⟨x,hx⟩:∃x,t[j]? =some x:=⟨_,zAB (by rw[Hlen.out];exact hlt)⟩;have Hx:=kH hx;have Hc:=kH (aQj z t j n ct At wr (HT.out.below aAh hbw) hlt x hx);have Hbw:=kH hbw;clear hx hbw;cases hsh:T.aAq z j x
    ·rw[hsh]at Hc;have Hsh:=kH hsh;clear hsh
     go_wp2_with fail
     refine Hc.out.mono ?_;rintro e w2 ⟨rfl,hb2⟩;have Hb2:=kH (Hbw.out.trans (hb2.mono Hbw.out.size));clear hb2;go_wp2;go_ret;exact⟨aB3 (by rw[Hv.out,T.aM3 Hx.out Hsh.out];rfl),Hb2.out⟩
    ·rw[hsh]at Hc;have Hsh:=kH hsh;clear hsh
     go_wp2_with fail
     refine Hc.out.mono ?_;rintro e w2 ⟨rfl,hb2⟩;have Hb2:=kH (Hbw.out.trans (hb2.mono Hbw.out.size));clear hb2;go_wp2
     go_roundg (gk-1)
     case measure=>have:=Hgk.out;omega
     case rel=>have:=Hgk.out;exact⟨j+1,by omega,by go_num,by omega,Hb2.out,HS.out.next Hx.out Hsh.out⟩
   ·obtain rfl:j=n:=by omega
    have hall:=HS.out.all (by rw[Hlen.out];exact zBJ _);have Hall:=kH (T.aEg.1 hall);have Hv2:=kH (show T.valid z t=if(t.all (T.typed t))=false then 6 else if T.aAw t=true then 7 else 0 from by rw[Hv.out,hall];rfl);have Hbw:=kH hbw;clear hall hbw HS;go_wp2
    go_loopg [6] (j+1) (fun g i wr=>∃(p:Nat),p<=j/\i= .int .i64 (p:Int)/\g+p=j+1/\Below W.heap.size W wr/\Hid (T.aF1 t p))
    case atStart=>exact⟨0,zBL _,rfl,rfl,Hbw.out,fun i x hi=>by omega⟩
    case round=>
     clear Hbw;obtain⟨p,hp,rfl,hgk,hbw,HS⟩:=hrel;have Hgk2:=kH hgk;clear hgk
     by_cases hlt:p<j
     ·obtain⟨x,b,off,A,c,hx,rfl,hb,h0,h1,h2,h3,h4,hs,i0,i1⟩:=aBf HT.out hlt;have k0:=(hbw.cell (p:=⟨b,off+p*5,none⟩) hb).trans h0;have k1:=(hbw.cell (p:=⟨b,off+p*5+1,none⟩) hb).trans h1;have k2:=(hbw.cell (p:=⟨b,off+p*5+2,none⟩) hb).trans h2;have k3:=(hbw.cell (p:=⟨b,off+p*5+3,none⟩) hb).trans h3;have k4:=(hbw.cell (p:=⟨b,off+p*5+4,none⟩) hb).trans h4;have Hx:=kH hx;obtain⟨g1,g2,_,_,_,g3⟩:=T.aAo (Hall.out p x hx);have Hbw:=kH hbw;have Hc:=kH (aWm t x j ct (some ⟨b,off,none⟩) A c wr (HT.out.below aAh Hbw.out) (hs.below (aAd _) Hbw.out) g1 g2 (fun a ha=>by have:=g3 a ha;omega));unfold ndV at Hc;clear h0 h1 h2 h3 h4 hs hx hb hbw g1 g2 g3;cases hsh:T.typed t x
      ·rw[hsh]at Hc;have Hsh:=kH hsh;clear hsh
       go_wp2_with fail
       refine Hc.out.mono ?_;rintro e w2 ⟨rfl,hb2⟩;have Hb2:=kH (Hbw.out.trans (hb2.mono Hbw.out.size));clear hb2 k0 k1 k2 k3 k4;go_wp2;go_ret;exact⟨aB3 (by rw[Hv2.out,T.aO8 Hx.out Hsh.out];rfl),Hb2.out⟩
      ·rw[hsh]at Hc;have Hsh:=kH hsh;clear hsh
       go_wp2_with fail
       refine Hc.out.mono ?_;rintro e w2 ⟨rfl,hb2⟩;have Hb2:=kH (Hbw.out.trans (hb2.mono Hbw.out.size));clear hb2 k0 k1 k2 k3 k4;go_wp2
       go_roundg (gk-1)
       case measure=>have:=Hgk2.out;omega
       case rel=>have:=Hgk2.out;exact⟨p+1,by omega,by go_num,by omega,Hb2.out,HS.out.next Hx.out Hsh.out⟩
     ·obtain rfl:p=j:=by omega
      have hall:=HS.out.all (by rw[Hlen.out];exact zBJ _);have Hv3:=kH (show T.valid z t=if T.aAw t=true then 7 else 0 from by rw[Hv2.out,hall];rfl);have Hbw:=kH hbw;clear hall hbw HS;go_wp2
      go_loopg [7] (p+1) (fun g i wr=>∃(k:Nat),k<=p/\i= .int .i64 (k:Int)/\g+k=p+1/\Below W.heap.size W wr/\Hid (NoCl t k 0))
      case atStart=>exact⟨0,zBL _,rfl,rfl,Hbw.out,NoCl.zero t⟩
      case round=>
       clear Hbw;obtain⟨k,hk,rfl,hgk,hbw,HN⟩:=hrel;have Hgk3:=kH hgk;clear hgk;obtain⟨gO,hgO⟩:∃g,g=gk:=⟨_,rfl⟩;subst hgO
       by_cases hlk:k<p
       ·have Hbw:=kH hbw;clear hbw;go_wp2
        go_loopg [8] (k+1) (fun g i wr=>∃(q:Nat),q<=k/\i= .int .i64 (q:Int)/\g+q=k+1/\Below W.heap.size W wr/\Hid (NoCl t k q))
        case atStart=>exact⟨0,zBL _,rfl,rfl,Hbw.out,HN.out⟩
        case round=>
         clear HN Hbw;obtain⟨q,hq,rfl,hgk,hbw,HN⟩:=hrel;have Hgk4:=kH hgk;clear hgk
         by_cases hlq:q<k
         ·obtain⟨y,b,off,A,c,hy,hAt,hb,h0,h1,h2,h3,h4,_,_,_⟩:=aBf HT.out hlk;obtain⟨x,b',off',A',c',hx,hAt',_,g0,g1,g2,g3,g4,_,_,_⟩:=aBf HT.out (j:=q) (by omega);rw[hAt]at hAt';injection hAt' with hAt'
          injection hAt' with e1 e2
          subst e1 e2 hAt;have k0:=(hbw.cell (p:=⟨b,off+k*5,none⟩) hb).trans h0;have k1:=(hbw.cell (p:=⟨b,off+k*5+1,none⟩) hb).trans h1;have k4:=(hbw.cell (p:=⟨b,off+k*5+4,none⟩) hb).trans h4;have m0:=(hbw.cell (p:=⟨b,off+q*5,none⟩) hb).trans g0;have m1:=(hbw.cell (p:=⟨b,off+q*5+1,none⟩) hb).trans g1;have m4:=(hbw.cell (p:=⟨b,off+q*5+4,none⟩) hb).trans g4;have Hx:=kH hx;have Hy:=kH hy;have Hbw:=kH hbw;have Hcs:=kH (aTp x y);obtain⟨xo,xw,xf,xa,xi⟩:=x;obtain⟨yo,yw,yf,ya,yi⟩:=y
          dsimp only at k0 k1 k4 m0 m1 m4 Hcs
          have hq2:q<p:=by omega
          clear hx hy hbw h0 h1 h2 h3 h4 g0 g1 g2 g3 g4 hb;rcases Hcs.out with⟨hr,c1⟩ |⟨hr,c1,c2⟩ |⟨hr,c1,c2,c3⟩ |⟨hr,c1,c2,c3,c4⟩ |⟨hr,c1,c2,c3,c4⟩
          ·have Hr:=kH hr;clear hr Hcs;go_wp2
           go_quiet (fail)
           go_wp2
           go_roundg (gk-1)
           case measure=>have:=Hgk4.out;omega
           case rel=>have:=Hgk4.out;exact⟨q+1,by omega,by go_num,by omega,Hbw.out.dr ⟨_,rfl⟩,HN.out.next Hx.out Hy.out Hr.out⟩
          ·have Hr:=kH hr;clear hr Hcs;go_wp2
           go_quiet (fail)
           go_wp2
           go_roundg (gk-1)
           case measure=>have:=Hgk4.out;omega
           case rel=>have:=Hgk4.out;exact⟨q+1,by omega,by go_num,by omega,Hbw.out.dr ⟨_,rfl⟩,HN.out.next Hx.out Hy.out Hr.out⟩
          ·have Hr:=kH hr;clear hr Hcs;go_wp2
           go_quiet (fail)
           go_wp2
           go_roundg (gk-1)
           case measure=>have:=Hgk4.out;omega
           case rel=>have:=Hgk4.out;exact⟨q+1,by omega,by go_num,by omega,Hbw.out.dr ⟨_,rfl⟩,HN.out.next Hx.out Hy.out Hr.out⟩
          ·have Hr:=kH hr;clear hr Hcs;go_wp2
           go_quiet (fail)
           go_wp2
           go_roundg (gk-1)
           case measure=>have:=Hgk4.out;omega
           case rel=>have:=Hgk4.out;exact⟨q+1,by omega,by go_num,by omega,Hbw.out.dr ⟨_,rfl⟩,HN.out.next Hx.out Hy.out Hr.out⟩
          ·have Hr:=kH hr;clear hr Hcs;go_wp2
           go_quiet (fail)
           go_wp2;go_ret;exact⟨aB3 (by rw[Hv3.out,aTo hlq Hx.out Hy.out Hr.out];rfl),Hbw.out.dr ⟨_,rfl⟩⟩
         ·obtain rfl:q=k:=by omega
          have Hbw:=kH hbw;clear hbw;go_wp2
          go_roundg (gO-1)
          case measure=>have:=Hgk3.out;omega
          case rel=>have:=Hgk3.out;exact⟨q+1,by omega,by go_num,by omega,Hbw.out,HN.out.row⟩
       ·obtain rfl:k=p:=by omega
        have Hbw:=kH hbw;clear hbw;go_wp2;go_ret;exact⟨aB3 (by rw[Hv3.out,HN.out.all (by rw[Hlen.out];exact zBJ _)];rfl),Hbw.out⟩
namespace T
def cmp(p n a b:Int):Bool:=
 if p=0 then decide (a=b)else if p=1 then !decide (a=b)else if p=2 then decide (a<b)else if p=3 then decide (a<=b)else if p=4 then decide (b<a)else if p=5 then decide (b<=a)
 else if p=6 then decide (B.sg n a<B.sg n b)else if p=7 then decide (B.sg n a<=B.sg n b)else if p=8 then decide (B.sg n b<B.sg n a)else decide (B.sg n b<=B.sg n a)
end T
theorem aYt{a b:Bool}(h:a=b):Ending.returned (.tuple #[.bool a, .int .i64 0])= .returned (.tuple #[.bool b, .int .i64 0]):=by rw[h]
theorem aYu(a b:Int):(a == b)=decide (a=b):=by by_cases h:a=b <;> simp[h]
theorem aWn(p:Int)(h0:0<=p)(h1:p<=9)(W:World):Calls prog 188 #[.int .i64 p] W fun e w'=>e= .returned (.bool true)/\W=w':=by
 go_enter func188,ntmps188
 go_wp2;go_ret;exact⟨rfl,rfl⟩
theorem aKd(p n a b:Int)(W:World)(hp0:0<=p)(hp1:p<=9)(hn0:1<=n)(hn1:n<=32)(ha0:0<=a)(ha1:a<B.pw n)(hb0:0<=b)(hb1:b<B.pw n):
 Calls prog 144 #[.int .i64 p, .int .i64 n, .int .u32 a, .int .u32 b] W fun e w'=>e= .returned (.tuple #[.bool (T.cmp p n a b), .int .i64 0])/\Below W.heap.size W w':=by
 have hl:=B.pw_le hn1;have HP:=kH (fun W'=>aWn p hp0 hp1 W');have hT:SlAt (IntR .u32) (W.alloc (.cells #[.int .u32 a, .int .u32 b] 45)) (some ⟨W.heap.size,0,none⟩) 2 [a,b]:=
  (OwnAt.of_new (s:=1) W #[.int .u32 a, .int .u32 b] 2 rfl (by simp[maxLen])).slInts
 have hF:=aL5 n _ 2 2 [a,b] _ hT;have hfit:(B.isWd n && [a,b].all fun x=>decide (x<B.pw n))=true:=by
  rw[B.aBj.2 ⟨hn0,hn1⟩];simp[ha1,hb1]
 rw[hfit]at hF;have HF:=kH hF;have HA:=kH (fun W'=>aCn n a W' hn0 hn1 ha0 ha1);have HB:=kH (fun W'=>aCn n b W' hn0 hn1 hb0 hb1);have HBl:=kH (show Below W.heap.size W (W.alloc (.cells #[.int .u32 a, .int .u32 b] 45))from al0);have ha9:a<4294967296:=by omega
 have hb9:b<4294967296:=by omega
 clear hT hF hfit ha1 hb1 hl;obtain⟨r,hr⟩:∃r,r=T.cmp p n a b:=⟨_,rfl⟩;rw[<-hr];have hp:p=0\/p=1\/p=2\/p=3\/p=4\/p=5\/p=6\/p=7\/p=8\/p=9:=by omega
 rcases hp with rfl | rfl | rfl | rfl | rfl | rfl | rfl | rfl | rfl | rfl
 iterate 6
  have Hr:=kH hr;clear hr hp0 hp1
  go_enter func144,ntmps144
  go_wp2_with (first |(go_at_call 188;(with_reducible refine(HP.out _).mono ?_);rintro e w1 ⟨rfl,rfl⟩) |(go_at_call 189;(with_reducible refine HF.out.mono ?_);rintro e w2 ⟨rfl,rfl⟩) | fail)
  go_ret2;exact⟨aYt (by rw[Hr.out];by_cases hab:a=b <;> simp[T.cmp,aYu,hab]),HBl.out⟩
 all_goals
  obtain⟨sa,hsa⟩:∃sa,sa=B.sg n a:=⟨_,rfl⟩;obtain⟨sb,hsb⟩:∃sb,sb=B.sg n b:=⟨_,rfl⟩;have Hr:=kH (show r=_ from hr);unfold T.cmp at Hr;rw[<-hsa,<-hsb]at Hr;rw[<-hsa]at HA;rw[<-hsb]at HB;clear hr hp0 hp1 hsa hsb
  go_enter func144,ntmps144
  go_wp2_with (first |(go_at_call 188;(with_reducible refine(HP.out _).mono ?_);rintro e w1 ⟨rfl,rfl⟩) |(go_at_call 189;(with_reducible refine HF.out.mono ?_);rintro e w2 ⟨rfl,rfl⟩) |(go_at_call 190;(with_reducible refine(HA.out _).mono ?_);rintro e w3 ⟨rfl,rfl⟩) |(go_at_call 190;(with_reducible refine(HB.out _).mono ?_);rintro e w4 ⟨rfl,rfl⟩) | fail)
  go_ret2;exact⟨aYt (by rw[Hr.out];simp),HBl.out⟩
namespace T
def ext(k n m x:Int):Int:=if k=16 then x else if k=17 then B.sg n x % B.pw m else x % B.pw m
structure ExtOk(k n m x:Int):Prop where
 n0:1<=n
 n1:n<=32
 m0:1<=m
 m1:m<=32
 x0:0<=x
 x1:x<B.pw n
 kk:(k=16/\n<m)\/(k=17/\n<m)\/(k=18/\m<n)
end T
theorem aKe{a a':Int}(h:a=a'):Ending.returned (.tuple #[.int .u32 a, .int .i64 0])= .returned (.tuple #[.int .u32 a', .int .i64 0]):=by rw[h]
theorem aTq(k n m x:Int)(W:World)(h:T.ExtOk k n m x):
 Calls prog 145 #[.int .i64 k, .int .i64 n, .int .i64 m, .int .u32 x] W fun e w'=>e= .returned (.tuple #[.int .u32 (T.ext k n m x), .int .i64 0])/\Below W.heap.size W w':=by
 obtain⟨hn0,hn1,hm0,hm1,hx0,hx1,hk⟩:=h;have hl:=B.pw_le hn1;have hT:SlAt (IntR .u32) (W.alloc (.cells #[.int .u32 x] 45)) (some ⟨W.heap.size,0,none⟩) 1 [x]:=
  (OwnAt.of_new (s:=1) W #[.int .u32 x] 1 rfl (by simp[maxLen])).slInts
 have hF:=aL5 n _ 1 1 [x] _ hT;have hfit:(B.isWd n && [x].all fun x=>decide (x<B.pw n))=true:=by
  rw[B.aBj.2 ⟨hn0,hn1⟩];simp[hx1]
 rw[hfit]at hF;have HF:=kH hF;have HW:=kH (fun W'=>by have:=aH0 m W';rw[B.aBj.2 ⟨hm0,hm1⟩]at this;exact this);have HA:=kH (fun W'=>aCn n x W' hn0 hn1 hx0 hx1);have HM:=kH (fun W'=>aC7 m W' (by omega) hm1);have HBl:=kH (show Below W.heap.size W (W.alloc (.cells #[.int .u32 x] 45))from al0);have hx9:x<4294967296:=by omega
 have Hb:=kH (B.aE3 (B.sg n x) hm1);have Hd:=kH (B.aIj (n:=m) (x:=x) hm1 hx0 hx9);clear hT hF hfit hx1 hl;rcases hk with⟨rfl,hnm⟩ |⟨rfl,hnm⟩ |⟨rfl,hnm⟩
 all_goals
  go_enter func145,ntmps145
  go_wp2_with (first |(go_at_call 141;(with_reducible refine(HW.out _).mono ?_);rintro e w1 ⟨rfl,rfl⟩) |(go_at_call 189;(with_reducible refine HF.out.mono ?_);rintro e w2 ⟨rfl,rfl⟩) |(go_at_call 190;(with_reducible refine(HA.out _).mono ?_);rintro e w3 ⟨rfl,rfl⟩) |(go_at_call 142;(with_reducible refine(HM.out _).mono ?_);rintro e w4 ⟨rfl,rfl⟩) | fail)
  go_ret2
 ·exact⟨rfl,HBl.out⟩
 ·refine⟨aKe ?_,HBl.out⟩;simp only[T.ext,if_pos,if_neg,reduceIte,Int.reduceEq]
  first | exact Hb.out |(rw[IntKind.wrap_u64];exact Hb.out) |(have:=Hb.out;simpa using this)
 ·refine⟨aKe ?_,HBl.out⟩;simp only[T.ext,if_pos,if_neg,reduceIte,Int.reduceEq];exact Hd.out
theorem aTr(k n m x:Int)(W:World)(h:T.ExtOk k n m x):
 Calls prog 125 #[.int .i64 k, .int .i64 n, .int .i64 m, .int .u32 x] W fun e w'=>e= .returned (.tuple #[.int .u32 (T.ext k n m x), .int .i64 0])/\W=w':=by
 obtain⟨hn0,hn1,hm0,hm1,hx0,hx1,hk⟩:=h;have hl:=B.pw_le hn1;have hx9:x<4294967296:=by omega
 have hwx:B.isW n x=true:=by unfold B.isW;rw[B.aBj.2 ⟨hn0,hn1⟩];simp[hx1]
 have HX:=kH (fun W'=>by have:=aCq n x W' hx0 hx9;rw[hwx]at this;exact this);have HW:=kH (fun W'=>by have:=aHj m W';rw[B.aBj.2 ⟨hm0,hm1⟩]at this;exact this);have HA:=kH (fun W'=>aAv n x W' hn0 hn1 hx0 hx9);have hs: -9223372036854775808<=B.sg n x/\B.sg n x<=9223372036854775807:=by
  have:=B.aBr n;unfold B.sg;split <;> omega
 have HC:=kH (fun W'=>aD2 m (B.sg n x) W' (by omega) hm1 hs.1 hs.2);have HD:=kH (fun W'=>aD2 m x W' (by omega) hm1 (by omega) (by omega));have hm:n<m->x % B.pw m=x:=by
  intro hnm;refine Int.emod_eq_of_lt hx0 ?_;have:B.pw n<=B.pw m:=by
   rw[B.aDa,B.aDa];exact Int.ofNat_le.2 (zAJ (by decide) (by omega))
  omega
 have Hm:=kH hm;obtain⟨r,hr⟩:∃r,r=T.ext k n m x:=⟨_,rfl⟩;rw[<-hr];unfold T.ext at hr;generalize B.sg n x=sx at HA HC hr;have Hr:=kH hr;clear hwx hx1 hl hs hm hr;rcases hk with⟨rfl,hnm⟩ |⟨rfl,hnm⟩ |⟨rfl,hnm⟩
 all_goals
  go_enter func125,ntmps125
  go_wp2_with (first |(go_at_call 163;(with_reducible refine(HW.out _).mono ?_);rintro e w1 ⟨rfl,rfl⟩) |(go_at_call 121;(with_reducible refine(HX.out _).mono ?_);rintro e w2 ⟨rfl,rfl⟩) |(go_at_call 167;(with_reducible refine(HA.out _).mono ?_);rintro e w3 ⟨rfl,rfl⟩) |(go_at_call 168;(with_reducible refine(HC.out _).mono ?_);rintro e w4 ⟨rfl,rfl⟩) |(go_at_call 168;(with_reducible refine(HD.out _).mono ?_);rintro e w5 ⟨rfl,rfl⟩) | fail)
  go_ret2
 ·exact⟨aKe (by rw[Hr.out,Hm.out hnm];simp),rfl⟩
 ·exact⟨aKe (by rw[Hr.out];simp),rfl⟩
 ·exact⟨aKe (by rw[Hr.out];simp),rfl⟩
end
section
namespace T
theorem aEk{α:Type}{l:List α}{d:α}{i:Nat}(h:i<l.length):l.getD i d=l[i]:=by
 rw[zAT,zAB h];rfl
theorem aNj{α:Type}{l m:List α}{d:α}{i:Nat}(h:i<l.length):(l ++ m).getD i d=l.getD i d:=by
 rw[zAT,zAT,zAE h]
theorem aL9{α:Type}{l:List α}{d a:α}:(l ++ [a]).getD l.length d=a:=by
 rw[zAT];simp
def at_(vs:List Int)(x:Nd)(i:Nat):Int:=vs.getD (x.args.getD i 0).toNat 0
def val(t:List Nd)(vs env:List Int)(x:Nd):Int:=
 if x.op=0 then x.imm
 else if x.op=33 then env.getD x.imm.toNat 0
 else if x.op=14 then(if cmp x.imm (wd t x 0) (at_ vs x 0) (at_ vs x 1)=true then 1 else 0)
 else if x.op=15 then at_ vs x (2-at_ vs x 0).toNat
 else if 16<=x.op then ext x.op (wd t x 0) x.w (at_ vs x 0)
 else B.full x.op x.w (at_ vs x 0) (at_ vs x 1)
def valsTo(t:List Nd)(env:List Int):Nat->List Int
 | 0=> []
 | j+1=>valsTo t env j ++ [val t (valsTo t env j) env (t.getD j default)]
def vals(t:List Nd)(env:List Int):List Int:=valsTo t env t.length
theorem valsTo_len(t:List Nd)(env:List Int)(j:Nat):(valsTo t env j).length=j:=by
 induction j with
 | zero=>rfl
 | succ j ih=>simp[valsTo,ih]
theorem aR3(t:List Nd)(env:List Int):(vals t env).length=t.length:=valsTo_len t env _
structure Std(t:List Nd)(env:List Int):Prop where
 sh:∀(i:Nat) (x:Nd),t[i]? =some x->aAq false i x=true
 ty:∀(i:Nat) (x:Nd),t[i]? =some x->typed t x=true
 im:∀x∈t,0<=x.imm
 en:env.length=4
 ev:∀(i:Nat) (x:Nd),t[i]? =some x->x.op=33->0<=env.getD x.imm.toNat 0/\env.getD x.imm.toNat 0<B.pw x.w
def Words(t:List Nd)(vs:List Int):Prop:=∀(i:Nat) (x:Nd),i<vs.length->t[i]? =some x->0<=vs.getD i 0/\vs.getD i 0<B.pw x.w
theorem Words.at_{t:List Nd}{vs:List Int}(h:Words t vs){x:Nd}{i:Nat}(hj:vs.length<=t.length)(hi:i<x.args.length)(hx:∀a∈x.args,0<=a/\a<(vs.length:Int)):0<=T.at_ vs x i/\T.at_ vs x i<B.pw (wd t x i):=by
 have ha:x.args.getD i 0∈x.args:=by
  rw[aEk hi];exact zBM hi
 have hb:=hx _ ha;have hc:(x.args.getD i 0).toNat<vs.length:=by omega
 have hd:(x.args.getD i 0).toNat<t.length:=by omega
 have he:t[(x.args.getD i 0).toNat]? =some (t.getD (x.args.getD i 0).toNat default):=by
  rw[aEk hd];exact zAB hd
 exact h _ _ hc he
structure Nod(t:List Nd)(env vs:List Int)(x:Nd):Prop where
 w0:1<=x.w
 w1:x.w<=32
 i0:0<=x.imm
 len:(x.args.length:Int)=ar x.op
 ar0:0<=ar x.op
 lo:∀i,i<x.args.length->0<=x.args.getD i 0/\x.args.getD i 0<(vs.length:Int)
 wd:∀i,i<x.args.length->1<=T.wd t x i/\T.wd t x i<=32
 at_:∀i,i<x.args.length->0<=T.at_ vs x i/\T.at_ vs x i<B.pw (T.wd t x i)
 imm:immOk x=true
 ty:typed t x=true
theorem Std.nod{t:List Nd}{env vs:List Int}(h:Std t env)(hw:Words t vs){x:Nd}(hx:t[vs.length]? =some x):Nod t env vs x:=by
 have hs:=aAo (h.sh _ _ hx);have hl:vs.length<t.length:=by
  rcases Nat.lt_or_ge vs.length t.length with h1 | h1
  ·exact h1
  ·rw[zAN h1]at hx;cases hx
 have hm:x∈t:=zAC hx;have hlo:∀i,i<x.args.length->0<=x.args.getD i 0/\x.args.getD i 0<(vs.length:Int):=by
  intro i hi;rw[aEk hi];exact hs.2.2.2.2.2 _ (zBM hi)
 refine⟨hs.2.2.1,hs.2.2.2.1,h.im _ hm,hs.1,hs.2.1,hlo,?_,fun i hi=>hw.at_ (by omega) hi hs.2.2.2.2.2,hs.2.2.2.2.1,h.ty _ _ hx⟩;intro i hi;have hb:=hlo i hi;have hd:(x.args.getD i 0).toNat<t.length:=by omega
 have he:t[(x.args.getD i 0).toNat]? =some (t.getD (x.args.getD i 0).toNat default):=by
  rw[aEk hd];exact zAB hd
 have hz:=aAo (h.sh _ _ he);exact⟨hz.2.2.1,hz.2.2.2.1⟩
theorem Nod.ext{t:List Nd}{env vs:List Int}{x:Nd}(h:Nod t env vs x)(h16:16<=x.op)(h33:x.op≠33):x.args.length=1/\ExtOk x.op (T.wd t x 0) x.w (T.at_ vs x 0):=by
 have h0:=h.ar0;have hl:=h.len;have hk:x.op=16\/x.op=17\/x.op=18:=by
  unfold ar at h0;split at h0
  ·omega
  ·split at h0
   ·omega
   ·split at h0
    ·omega
    ·split at h0 <;> omega
 have hl1:x.args.length=1:=by
  unfold ar at hl;rcases hk with e | e | e <;> rw[e]at hl <;> simp at hl <;> omega
 have ht:=h.ty;have hw:=h.wd 0 (by omega);have ha:=h.at_ 0 (by omega);refine⟨hl1,hw.1,hw.2,h.w0,h.w1,ha.1,ha.2,?_⟩;unfold typed at ht;rcases hk with e | e | e <;> rw[e]at ht⊢<;> simp at ht <;> omega
theorem Nod.cmp{t:List Nd}{env vs:List Int}{x:Nd}(h:Nod t env vs x)(h14:x.op=14):x.args.length=2/\0<=x.imm/\x.imm<=9/\T.wd t x 1=T.wd t x 0:=by
 have hl:=h.len;have hi:=h.imm;have ht:=h.ty;have h0:=h.i0;unfold ar at hl;unfold immOk at hi;unfold typed at ht;rw[h14]at hl hi ht;simp at hl hi ht;exact⟨by omega,h0,hi,ht.symm⟩
theorem Nod.ite{t:List Nd}{env vs:List Int}{x:Nd}(h:Nod t env vs x)(h15:x.op=15):x.args.length=3/\T.wd t x 1=x.w/\T.wd t x 2=x.w/\(T.at_ vs x 0=0\/T.at_ vs x 0=1):=by
 have hl:=h.len;have ht:=h.ty;unfold ar at hl;unfold typed at ht;rw[h15]at hl ht;simp at hl ht;have ha:=h.at_ 0 (by omega);rw[ht.1.1]at ha;have:B.pw 1=2:=by decide
 refine⟨by omega,ht.1.2,ht.2,by omega⟩
theorem Nod.bin{t:List Nd}{env vs:List Int}{x:Nd}(h:Nod t env vs x)(h0:x.op≠0)(h14:x.op<14):x.args.length=2/\1<=x.op/\x.op<=13/\T.wd t x 0=x.w/\T.wd t x 1=x.w:=by
 have hl:=h.len;have ht:=h.ty;have ha:=h.ar0;have h1:1<=x.op/\x.op<=13:=by
  unfold ar at ha;split at ha
  ·omega
  ·split at ha
   ·omega
   ·split at ha
    ·omega
    ·split at ha <;> omega
 unfold ar at hl;rw[if_neg (by omega),if_pos (by omega)]at hl;unfold typed at ht;rw[if_pos h1]at ht;simp at ht;exact⟨by omega,h1.1,h1.2,ht.1,ht.2⟩
theorem bBg{k n m x:Int}(h:ExtOk k n m x):0<=ext k n m x/\ext k n m x<B.pw m:=by
 obtain⟨n0,n1,m0,m1,x0,x1,hk⟩:=h;have hp:=B.aBr m;unfold ext;rcases hk with⟨rfl,hnm⟩ |⟨rfl,hnm⟩ |⟨rfl,hnm⟩
 ·have:B.pw n<=B.pw m:=by
   rw[B.aDa,B.aDa];exact Int.ofNat_le.2 (zAJ (by decide) (by omega))
  rw[if_pos rfl];omega
 ·rw[if_neg (by decide),if_pos rfl];exact⟨Int.emod_nonneg _ (by omega),Int.emod_lt_of_pos _ hp⟩
 ·rw[if_neg (by decide),if_neg (by decide)];exact⟨Int.emod_nonneg _ (by omega),Int.emod_lt_of_pos _ hp⟩
theorem bBh{t:List Nd}{env vs:List Int}(h:Std t env)(hw:Words t vs){x:Nd}(hx:t[vs.length]? =some x):0<=val t vs env x/\val t vs env x<B.pw x.w:=by
 have hn:=h.nod hw hx;unfold val
 by_cases h0:x.op=0
 ·rw[if_pos h0];have hi:=hn.imm;unfold immOk at hi;rw[if_pos h0]at hi;unfold B.isW at hi;simp at hi;exact⟨hn.i0,hi.2⟩
 rw[if_neg h0]
 by_cases h1:x.op=33
 ·rw[if_pos h1];exact h.ev _ _ hx h1
 rw[if_neg h1]
 by_cases h2:x.op=14
 ·rw[if_pos h2];have hp:(1:Int) < B.pw x.w:=by
   have h3:=B.aF0 hn.w0;have h4:=B.aBr (x.w-1);omega
  split <;> omega
 rw[if_neg h2]
 by_cases h3:x.op=15
 ·rw[if_pos h3];obtain⟨hl,w1,w2,ha⟩:=hn.ite h3;rcases ha with ha | ha
  ·rw[ha];have:=hn.at_ 2 (by omega);rw[w2]at this;exact this
  ·rw[ha];have:=hn.at_ 1 (by omega);rw[w1]at this;exact this
 rw[if_neg h3]
 by_cases h4:16<=x.op
 ·rw[if_pos h4];exact bBg (hn.ext h4 h1).2
 rw[if_neg h4];obtain⟨hl,o0,o1,w1,w2⟩:=hn.bin h0 (by omega);have a0:=hn.at_ 0 (by omega);have a1:=hn.at_ 1 (by omega);rw[w1]at a0;rw[w2]at a1;exact B.aO7 o0 o1 hn.w0 a0.1 a0.2 a1.1 a1.2
theorem aFs{t:List Nd}{env:List Int}(h:Std t env)(j:Nat)(hj:j<=t.length):Words t (valsTo t env j):=by
 induction j with
 | zero=>intro i x hi;simp[valsTo]at hi
 | succ j ih=>
  have ih:=ih (by omega);have hx:t[(valsTo t env j).length]? =some (t.getD j default):=by
   rw[valsTo_len,aEk (by omega)];exact zAB (by omega)
  have hv:=bBh h ih hx;intro i x hi hxi;rw[valsTo_len]at hi
  by_cases hc:i<j
  ·have:=ih i x (by rw[valsTo_len];exact hc) hxi;rw[valsTo,aNj (by rw[valsTo_len];exact hc)];exact this
  ·have he:i=j:=by omega
   subst he;rw[valsTo_len,hxi]at hx;obtain rfl:x=t.getD i default:=by injection hx
   have hg:=aL9 (l:=valsTo t env i) (d:=(0:Int)) (a:=val t (valsTo t env i) env (t.getD i default));rw[valsTo_len]at hg;rw[valsTo,hg];exact hv
end T
end
section
open Go.RowKit
namespace T
structure EnvOk(t:List Nd)(env:List Int):Prop where
 len:env.length=4
 word:∀x∈env,0<=x/\x<4294967296
 fit:∀(v:Nat) (z:Int),(aAa t)[v]? =some z->z≠0->env.getD v 0<B.pw z
theorem aTs{k:Nat}{x:Nd}{z:Bool}(h:aAq z k x=true):aAq false k x=true:=by
 unfold aAq at h⊢;simp only[Bool.and_eq_true,Bool.or_eq_true,Bool.not_eq_true']at h⊢;obtain⟨⟨⟨⟨⟨⟨⟨h1,h2⟩,h3⟩,_⟩,h5⟩,h6⟩,h7⟩,h8⟩:=h;exact⟨⟨⟨⟨⟨⟨⟨h1,h2⟩,h3⟩, .inl (by first | rfl | trivial)⟩,h5⟩,h6⟩,h7⟩,h8⟩
theorem aNk{z:Bool}{t:List Nd}{env:List Int}(hv:valid z t=0)(hi:∀y∈t,0<=y.imm)(he:EnvOk t env):Std t env:=by
 obtain⟨v1,v2,v3,v4,v5⟩:=aBk hv;refine⟨fun i x hx=>aTs (v3 i x hx),fun i x hx=>v4 x (zAC hx),hi,he.len,fun i x hx h33=>?_⟩;have hs:=aAo (v3 i x hx);have him:x.imm<4:=by have:=hs.2.2.2.2.1;unfold immOk at this;rw[if_neg (by omega),if_pos h33]at this;simpa using this
 have h0:=hi x (zAC hx);have hw:=aHt v5 hi hx h33 him;refine⟨?_,he.fit _ _ hw (by omega)⟩;have hl:x.imm.toNat<env.length:=by have:=he.len;omega
 rw[aEk hl];exact(he.word _ (zBM hl)).1
end T
theorem aE0(t:List T.Nd)(n ct:Nat)(At:Option Addr)(W:World)(hT:StAt 5 NdR W At n t):
 Calls prog 21 #[.slice At n ct] W fun e w'=>e= .returned (.int .i64 (T.valid true t))/\Below W.heap.size W w':=by
 have HC:=kH (aR2 true t n ct At W hT);clear hT;obtain⟨v,hv⟩:∃v,v=T.valid true t:=⟨_,rfl⟩;rw[<-hv]at HC⊢;clear hv
 go_enter func21,ntmps21
 go_wp2_with fail
 refine HC.out.mono ?_;rintro e w1 ⟨rfl,hb1⟩;have Hb1:=kH hb1;clear hb1;go_wp2;go_ret;exact⟨rfl,Hb1.out⟩
theorem aLu(t:List T.Nd)(n ct:Nat)(At:Option Addr)(W:World)(hT:StAt 5 NdR W At n t)(hok:T.aGi t)(hn:n<=1000000):
 Calls prog 46 #[.slice At n ct] W fun e w'=>∃g,e= .returned (.slice (some ⟨g,0,none⟩) 4 4)/\W.heap.size<=g/\w'.heap[g]? =some (.cells ((T.aAa t).map (Value.int .i64)).toArray 3 (0,0))/\Below W.heap.size W w':=by
 have HT:=kH hT;have Hok:=kH hok;have Hlen:=kH hT.len;clear hT hok;have hmk:=fun(W':World)=>aBd (P:=prog) 37 3 (.int .i64 0) 8 underlying37 infoInt rfl .i64 .i64 4 (4:Int) rfl (by omega) (by omega) W'
 go_enter func46,ntmps46
 go_wp2;clear hmk
 go_loopg [4] (n+1) (fun g i wr=>∃(j:Nat),j<=n/\i= .int .i64 (j:Int)/\g+j=n+1/\Below W.heap.size W wr/\Hid (wr.heap[W.heap.size]? =some (.cells ((T.aAa (t.take j)).map (Value.int .i64)).toArray 3 (0,0))))
 case atStart=>exact⟨0,zBL _,rfl,rfl,al0,by show _=_;rw[List.take_zero];exact heap_alloc_new W _⟩
 case round=>
  obtain⟨j,hj,rfl,hgk,hbw,HW⟩:=hrel;have Hgk:=kH hgk;clear hgk
  by_cases hlt:j<n
  ·obtain⟨x,b,off,A,c,hx,rfl,hb,h0,h1,h2,h3,h4,hs,i0,i1⟩:=aBf HT.out hlt;have k0:=(hbw.cell (p:=⟨b,off+j*5,none⟩) hb).trans h0;have k1:=(hbw.cell (p:=⟨b,off+j*5+1,none⟩) hb).trans h1;have k4:=(hbw.cell (p:=⟨b,off+j*5+4,none⟩) hb).trans h4;have Htk:=kH (show t.take (j+1)=t.take j ++ [x]from K.aFl hx);have Hokx:=kH (Hok.out x (zAC hx));obtain⟨op,w,fl,args,imm⟩:=x
   dsimp only at k0 k1 k4 Hokx i0 i1
   have Hbw:=kH hbw;have hne:b≠W.heap.size:=by omega
   clear h0 h1 h2 h3 h4 hs hx hbw
   by_cases ho:op=33
   ·obtain⟨m4,w1⟩:=Hokx.out.2 ho;subst ho;obtain⟨v,rfl⟩:∃v:Nat,imm=v:=⟨imm.toNat,by omega⟩;have hv4:v<4:=by omega
    obtain⟨z,hz⟩:=aLa (t.take j) hv4;have hcz:wr.cell? ⟨W.heap.size,v,none⟩=some (.int .i64 z):=by
     rw[cell_of_row _ _ _ _ _ (0,0) HW.out,zAV,zAW,hz];rfl
    have hfz:wr.frozen? ⟨W.heap.size,v,none⟩=false:=by simp[World.frozen?,HW.out]
    have HW2:=kH (show(wr.setCell ⟨W.heap.size,v,none⟩ (.int .i64 w)).heap[W.heap.size]? =some (.cells ((T.aAa (t.take (j+1))).map (Value.int .i64)).toArray 3 (0,0))from by
     rw[heap_setCell_same _ _ _ _ _ _ HW.out,Htk.out,T.aCo,if_pos rfl];simp[List.map_set])
    have Hb2:=kH (Hbw.out.setCell (p:=⟨W.heap.size,v,none⟩) (zBJ _) (.int .i64 w));clear hz;go_wp2
    go_region
    go_wp2
    go_roundg (gk-1)
    case measure=>have:=Hgk.out;omega
    case rel=>have:=Hgk.out;exact⟨j+1,by omega,by go_num,by omega,Hb2.out.drew,HW2.out⟩
   ·have q:(op == 33)=false:=by simpa using ho
    have HW2:=kH (show wr.heap[W.heap.size]? =some (.cells ((T.aAa (t.take (j+1))).map (Value.int .i64)).toArray 3 (0,0))from by rw[Htk.out,T.aCo,if_neg ho];exact HW.out);clear ho;go_wp2
    go_roundg (gk-1)
    case measure=>have:=Hgk.out;omega
    case rel=>have:=Hgk.out;exact⟨j+1,by omega,by go_num,by omega,Hbw.out,HW2.out⟩
  ·obtain rfl:j=n:=by omega
   have e:t.take j=t:=zAK (by rw[Hlen.out];exact zBJ _);rw[e]at HW;go_wp2;go_ret;exact⟨W.heap.size,rfl,zBJ _,HW.out,hbw⟩
namespace T
def cmpI(p x y:Int):Bool:=
 if p=0 then decide (x=y)else if p=1 then !decide (x=y)else if p=2\/p=6 then decide (x<y)else if p=3\/p=7 then decide (x<=y)else if p=4\/p=8 then decide (y<x)else decide (y<=x)
theorem bE4{p n a b:Int}(h0:6<=p)(h1:p<=9):cmp p n a b=cmpI p (B.sg n a) (B.sg n b):=by
 have hp:p=6\/p=7\/p=8\/p=9:=by omega
 rcases hp with rfl | rfl | rfl | rfl <;> simp[cmp,cmpI]
theorem bE5{p n a b:Int}(h0:0<=p)(h1:p<6):cmp p n a b=cmpI p a b:=by
 have hp:p=0\/p=1\/p=2\/p=3\/p=4\/p=5:=by omega
 rcases hp with rfl | rfl | rfl | rfl | rfl | rfl <;> simp[cmp,cmpI]
end T
theorem bE6{a b:Bool}(h:a=b):Ending.returned (.bool a)= .returned (.bool b):=by rw[h]
theorem aTt(p:Int)(h0:0<=p)(h1:p<=9)(W:World):Calls prog 165 #[.int .i64 p] W fun e w'=>e= .returned (.bool true)/\W=w':=by
 go_enter func165,ntmps165
 go_wp2;go_ret;exact⟨rfl,rfl⟩
theorem aKf(p x y:Int)(W:World)(hp0:0<=p)(hp1:p<=9):
 Calls prog 166 #[.int .i64 p, .int .i64 x, .int .i64 y] W fun e w'=>e= .returned (.bool (T.cmpI p x y))/\W=w':=by
 obtain⟨r,hr⟩:∃r,r=T.cmpI p x y:=⟨_,rfl⟩;rw[<-hr];have hp:p=0\/p=1\/p=2\/p=3\/p=4\/p=5\/p=6\/p=7\/p=8\/p=9:=by omega
 rcases hp with rfl | rfl | rfl | rfl | rfl | rfl | rfl | rfl | rfl | rfl
 all_goals
  have Hr:=kH hr;clear hr hp0 hp1
  go_enter func166,ntmps166
  go_wp2;go_ret;exact⟨bE6 (by rw[Hr.out];by_cases hxy:x=y <;> simp[T.cmpI,aYu,hxy]),rfl⟩
theorem aR4(p n a b:Int)(W:World)(hp0:0<=p)(hp1:p<=9)(hn0:1<=n)(hn1:n<=32)(ha0:0<=a)(ha1:a<B.pw n)(hb0:0<=b)(hb1:b<B.pw n):
 Calls prog 124 #[.int .i64 p, .int .i64 n, .int .u32 a, .int .u32 b] W fun e w'=>e= .returned (.tuple #[.bool (T.cmp p n a b), .int .i64 0])/\W=w':=by
 have hl:=B.pw_le hn1;have ha9:a<4294967296:=by omega
 have hb9:b<4294967296:=by omega
 have HP:=kH (fun W'=>aTt p hp0 hp1 W');have hwa:B.isW n a=true:=by unfold B.isW;rw[B.aBj.2 ⟨hn0,hn1⟩];simp[ha1]
 have hwb:B.isW n b=true:=by unfold B.isW;rw[B.aBj.2 ⟨hn0,hn1⟩];simp[hb1]
 have HWA:=kH (fun W'=>by have:=aCq n a W' ha0 ha9;rw[hwa]at this;exact this);have HWB:=kH (fun W'=>by have:=aCq n b W' hb0 hb9;rw[hwb]at this;exact this);have HA:=kH (fun W'=>aAv n a W' hn0 hn1 ha0 ha9);have HB:=kH (fun W'=>aAv n b W' hn0 hn1 hb0 hb9);obtain⟨r,hr⟩:∃r,r=T.cmp p n a b:=⟨_,rfl⟩;rw[<-hr];clear hwa hwb ha1 hb1 hl
 by_cases hc:6<=p
 ·rw[T.bE4 hc hp1]at hr;have HC:=kH (fun W'=>by have:=aKf p (B.sg n a) (B.sg n b) W' hp0 hp1;rw[<-hr]at this;exact this);generalize B.sg n a=sa at HA HC hr;generalize B.sg n b=sb at HB HC hr;have Hr:=kH hr;clear hr
  go_enter func124,ntmps124
  go_wp2_with (first |(go_at_call 165;(with_reducible refine(HP.out _).mono ?_);rintro e w1 ⟨rfl,rfl⟩) |(go_at_call 121;(with_reducible refine(HWA.out _).mono ?_);rintro e w2 ⟨rfl,rfl⟩) |(go_at_call 121;(with_reducible refine(HWB.out _).mono ?_);rintro e w2 ⟨rfl,rfl⟩) |(go_at_call 167;(with_reducible refine(HA.out _).mono ?_);rintro e w3 ⟨rfl,rfl⟩) |(go_at_call 167;(with_reducible refine(HB.out _).mono ?_);rintro e w4 ⟨rfl,rfl⟩) |(go_at_call 166;(with_reducible refine(HC.out _).mono ?_);rintro e w5 ⟨rfl,rfl⟩) | fail)
  go_ret2;exact⟨rfl,rfl⟩
 ·have hc':p<6:=by omega
  rw[T.bE5 hp0 hc']at hr;have HC:=kH (fun W'=>by have:=aKf p a b W' hp0 hp1;rw[<-hr]at this;exact this);have Hr:=kH hr;clear hr HA HB
  go_enter func124,ntmps124
  go_wp2_with (first |(go_at_call 165;(with_reducible refine(HP.out _).mono ?_);rintro e w1 ⟨rfl,rfl⟩) |(go_at_call 121;(with_reducible refine(HWA.out _).mono ?_);rintro e w2 ⟨rfl,rfl⟩) |(go_at_call 121;(with_reducible refine(HWB.out _).mono ?_);rintro e w2 ⟨rfl,rfl⟩) |(go_at_call 166;(with_reducible refine(HC.out _).mono ?_);rintro e w5 ⟨rfl,rfl⟩) | fail)
  go_ret2;exact⟨rfl,rfl⟩
end
end Go.Proofs.YtchdbhggbdcapaaGreat
