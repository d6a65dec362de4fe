/- Part. -/
import Derived.Test.YtchdbhggbdcapaaGreatSuLX
import Derived.Test.YtchdbhggbdcapaaGreatSu06
import Derived.Test.YtchdbhggbdcapaaGreatSu05
set_option linter.unusedVariables false
set_option linter.unusedSimpArgs false
set_option maxRecDepth 100000
set_option maxHeartbeats 16000000
namespace Go.Proofs.YtchdbhggbdcapaaGreat
open _root_.Go.Proofs.Tryz
section
open Go.RowKit
def aK9(f:FuncId)(caps:Array Value)(p:Int->Bool)(w:World):Prop:=(∀args W',(callFunc f args).run prog W'= .ok (.enter f args) W')/\∀x,Calls prog f (#[.int .i64 x]++ caps) w fun e w'=>e= .returned (.bool (p x))/\w=w'
theorem bBf(f:FuncId)(caps:Array Value)(p:Int->Bool)(A:Option Addr)(m c:Nat)(xs:List Int)(w:World)(hA:SlAt (IntR .i64) w A m xs)(hf:aK9 f caps p w):
 Calls prog 130 #[.slice A m c, .func (.func f) #[] caps] w fun e w'=>∃r:Int,e= .returned (.int .i64 r)/\decide (0<=r)=xs.any p/\-1<=r/\w=w':=by
 have hl:=hA.le;have HA:=kH hA;clear hA;have HP:=kH hf.2;have hen:=hf.1;clear hf
 go_enter func130,ntmps130
 go_wp2
 go_loop [8] (fun i=>∃k:Nat,k<=m/\i= .int .i64 k/\Hid ((xs.take k).any p=false)) (fun i=>m- (intOf i).toNat)
 case atStart=>exact⟨0,zBL _,rfl,rfl⟩
 case round=>
  obtain⟨k,hk,rfl,HT⟩:=hrel
  by_cases hlt:k<m
  ·obtain⟨x,b,off,u,hx,rfl,_,h1,rfl⟩:=HA.out.at_ hlt;have con:=HP.out x;have Hx:=kH hx;clear hx;cases hpx:p x
   ·rw[hpx]at con;have Hcon:=kH con;clear con;have Hpx:=kH hpx;clear hpx
    go_wp2_with fail
    refine Hcon.out.mono ?_;rintro e w' ⟨rfl,rfl⟩;go_wp2
    go_round
    case rel=>exact⟨k+1,by omega,by go_num,aQf Hx.out HT.out Hpx.out⟩
    case measure=>simp[intOf];omega
   ·rw[hpx]at con;have Hcon:=kH con;clear con;have Hpx:=kH hpx;clear hpx
    go_wp2_with fail
    refine Hcon.out.mono ?_;rintro e w' ⟨rfl,rfl⟩;go_wp2;go_ret;exact⟨_,rfl,by rw[aTm Hx.out Hpx.out];simp,by omega,rfl⟩
  ·go_wp2;go_ret;have h3:=HT.out;rw[aQ0 HA.out.len (by omega)]at h3;exact⟨_,rfl,by rw[h3];rfl,by omega,rfl⟩
theorem aRu(f:FuncId)(caps:Array Value)(p:Int->Bool)(A:Option Addr)(m c:Nat)(xs:List Int)(w:World)(hA:SlAt (IntR .i64) w A m xs)(hf:aK9 f caps p w):
 Calls prog 87 #[.slice A m c, .func (.func f) #[] caps] w fun e w'=>e= .returned (.bool (xs.any p))/\w=w':=by
 have Hcon:=kH (bBf f caps p A m c xs w hA hf);clear hA hf
 go_enter func87,ntmps87
 go_wp2_with fail
 refine Hcon.out.mono ?_;rintro e w' ⟨r,rfl,hr,hr1,rfl⟩;have Hr:=kH hr;clear hr;go_wp2;go_ret;exact⟨aA0 (by rw[<-Hr.out]),rfl⟩
theorem aQg(k:Nat)(g:Nat)(w:World)(hc:w.cell? ⟨g,0,none⟩=some (.int .i64 (k:Int))):
 aK9 110 #[.pointer (some ⟨g,0,none⟩)] (fun a=>!(decide (0<=a) && decide (a<k))) w:=by
 refine⟨enters_of func110 (by kernel_rfl) rfl,fun x=>?_⟩
 dsimp only
 by_cases h0:x<0
 ·have q0:decide (x<0)=true:=by simpa using h0
  have e:(!(decide (0<=x) && decide (x<k)))=true:=by simp;omega
  rw[e];clear e h0;simp only[List.append_toArray,List.nil_append,List.cons_append]
  go_enter func110,ntmps110
  go_wp2;go_ret;exact⟨rfl,rfl⟩
 ·have q0:decide (x<0)=false:=by simpa using h0
  have e:(!(decide (0<=x) && decide (x<k)))=decide ((k:Int)<=x):=by
   by_cases h:(k:Int)<=x <;> simp[h] <;> omega
  rw[e];clear e h0;simp only[List.append_toArray,List.nil_append,List.cons_append]
  go_enter func110,ntmps110
  go_wp2;go_ret;exact⟨rfl,rfl⟩
theorem aNg(k:Nat)(l:List Int):T.aCh k l= !(l.any fun a=>!(decide (0<=a) && decide (a<k))):=by
 unfold T.aCh;rw[List.not_any_eq_all_not]
 congr 1
 funext a
 simp
theorem aTn(k:Nat)(x:T.Nd):
 (T.aAq true k x=false/\decide (0<=T.ar x.op)=false)\/
 (T.aAq true k x=false/\decide (0<=T.ar x.op)=true/\decide (x.w<1)=true)\/
 (T.aAq true k x=false/\decide (0<=T.ar x.op)=true/\decide (x.w<1)=false/\decide (32<x.w)=true)\/
 (T.aAq true k x=false/\decide (0<=T.ar x.op)=true/\decide (x.w<1)=false/\decide (32<x.w)=false/\(x.fl != 0)=true)\/
 (T.aAq true k x=false/\decide (0<=T.ar x.op)=true/\decide (x.w<1)=false/\decide (32<x.w)=false/\(x.fl != 0)=false/\((x.args.length:Int) != T.ar x.op)=true)\/
 (T.aAq true k x=false/\decide (0<=T.ar x.op)=true/\decide (x.w<1)=false/\decide (32<x.w)=false/\(x.fl != 0)=false/\((x.args.length:Int) != T.ar x.op)=false/\T.immOk x=false)\/
 (T.aAq true k x=false/\decide (0<=T.ar x.op)=true/\decide (x.w<1)=false/\decide (32<x.w)=false/\(x.fl != 0)=false/\((x.args.length:Int) != T.ar x.op)=false/\T.immOk x=true/\(x.op == 14)=true/\(x.w != 1)=true)\/
 (T.aAq true k x=T.aCh k x.args/\decide (0<=T.ar x.op)=true/\decide (x.w<1)=false/\decide (32<x.w)=false/\(x.fl != 0)=false/\((x.args.length:Int) != T.ar x.op)=false/\T.immOk x=true/\(x.op == 14)=true/\(x.w != 1)=false)\/
 (T.aAq true k x=T.aCh k x.args/\decide (0<=T.ar x.op)=true/\decide (x.w<1)=false/\decide (32<x.w)=false/\(x.fl != 0)=false/\((x.args.length:Int) != T.ar x.op)=false/\T.immOk x=true/\(x.op == 14)=false):=by
 have hw1:decide (1<=x.w)= !decide (x.w<1):=by by_cases h:x.w<1 <;> simp[h] <;> omega
 have hw2:decide (x.w<=32)= !decide (32<x.w):=by by_cases h:32<x.w <;> simp[h] <;> omega
 have hf:decide (x.fl=0)= !(x.fl != 0):=by by_cases h:x.fl=0 <;> simp[h]
 have hl:decide ((x.args.length:Int)=T.ar x.op)= !((x.args.length:Int) != T.ar x.op):=by by_cases h:(x.args.length:Int)=T.ar x.op <;> simp[h]
 have ho:decide (x.op=14)=(x.op == 14):=by by_cases h:x.op=14 <;> simp[h]
 have hw:decide (x.w=1)= !(x.w != 1):=by by_cases h:x.w=1 <;> simp[h]
 unfold T.aAq;rw[hw1,hw2,hf,hl,ho,hw];generalize decide (0<=T.ar x.op)=a;generalize decide (x.w<1)=b;generalize decide (32<x.w)=c;generalize (x.fl != 0)=d;generalize ((x.args.length:Int) != T.ar x.op)=e;generalize T.immOk x=f;generalize (x.op == 14)=g;generalize (x.w != 1)=h;generalize T.aCh k x.args=i;cases a <;> cases b <;> cases c <;> cases d <;> cases e <;> cases f <;> cases g <;> cases h <;> simp
theorem aQh(k:Nat)(x:T.Nd)(A:Option Addr)(c:Nat)(W:World)(hA:SlAt (IntR .i64) W A x.args.length x.args):
 Calls prog 63 #[.int .i64 k,ndV x A c] W fun e w'=>e= .returned (.bool (T.aAq true k x))/\Below W.heap.size W w':=by
 obtain⟨op,w,fl,args,imm⟩:=x;have Hc:=kH (aTn k ⟨op,w,fl,args,imm⟩);have HI:=kH (fun n W'=>aV6 op w fl imm n A c args W');have HP:=kH (fun W'=>aV5 op W');have hle:=hA.le;obtain⟨W1,hW1⟩:∃W1,W1=(W.alloc (.cells #[.int .i64 (k:Int)] 3)).alloc (.cells #[.int .i64 op, .int .i64 w, .int .i64 fl, .slice A args.length c, .int .u32 imm] 56):=⟨_,rfl⟩;have hB1:Below W.heap.size W W1:=by rw[hW1];exact(al0).alloc (by simp) _
 have hs1:W1.heap.size=W.heap.size+1+1:=by rw[hW1];simp
 have hr0:W1.heap[W.heap.size]? =some (.cells #[.int .i64 (k:Int)] 3 (0,0)):=by rw[hW1];exact aA1 (heap_alloc_new W _) _
 have hr1:W1.heap[W.heap.size+1]? =some (.cells #[.int .i64 op, .int .i64 w, .int .i64 fl, .slice A args.length c, .int .u32 imm] 56 (0,0)):=by rw[hW1];exact aC2 W _ _
 have HX:=kH (show∀Y:World,Below W1.heap.size W1 Y->Y.cell? ⟨W.heap.size,0,none⟩=some (.int .i64 (k:Int))/\Y.cell? ⟨W.heap.size+1,0,none⟩=some (.int .i64 op)/\Y.cell? ⟨W.heap.size+1,1,none⟩=some (.int .i64 w)/\Y.cell? ⟨W.heap.size+1,2,none⟩=some (.int .i64 fl)/\Y.cell? ⟨W.heap.size+1,3,none⟩=some (.slice A args.length c)/\Y.cell? ⟨W.heap.size+1,4,none⟩=some (.int .u32 imm)from fun Y hY=>by
  have h0:=aBt (kH hY) hr0;have h1:=aBt (kH hY) hr1;refine⟨?_,?_,?_,?_,?_,?_⟩
  ·rw[cell_of_row _ _ _ _ _ (0,0) h0];rfl
  all_goals rw[cell_of_row _ _ _ _ _ (0,0) h1];rfl)
 have HS:=kH (fun(Y:World) (h:Below W1.heap.size W1 Y)=>aRu 110 #[.pointer (some ⟨W.heap.size,0,none⟩)] (fun a=>!(decide (0<=a) && decide (a<k))) A args.length c args Y ((hA.below (aAd _) hB1).below (aAd _) h) (aQg k _ Y (by
  have h0:=aBt (kH h) hr0;rw[cell_of_row _ _ _ _ _ (0,0) h0];rfl)))
 have HB1:=kH hB1;have Hs1:=kH hs1;have HW1:=kH hW1;clear hA hB1 hs1 hr0 hr1;obtain⟨x0,x1,x2,x3,x4,x5⟩:=HX.out W1 (Below.refl _ _);simp only at Hc HI HP;rw[show ndV ⟨op,w,fl,args,imm⟩ A c= .agg #[.int .i64 op, .int .i64 w, .int .i64 fl, .slice A args.length c, .int .u32 imm]from rfl];obtain⟨ok,hok⟩:∃ok,ok=decide (0<=T.ar op):=⟨_,rfl⟩;obtain⟨sh,hsh⟩:∃sh,sh=T.aAq true k ⟨op,w,fl,args,imm⟩:=⟨_,rfl⟩;rw[<-hsh];have Hsh:=kH hsh;have Hok:=kH hok;clear hsh hok;rcases Hc.out with⟨hr,h1⟩ |⟨hr,h1,h2⟩ |⟨hr,h1,h2,h3⟩ |⟨hr,h1,h2,h3,h4⟩ |⟨hr,h1,h2,h3,h4,h5⟩ |⟨hr,h1,h2,h3,h4,h5,h6⟩ |⟨hr,h1,h2,h3,h4,h5,h6,h7,h8⟩ |⟨hr,h1,h2,h3,h4,h5,h6,h7,h8⟩ |⟨hr,h1,h2,h3,h4,h5,h6,h7⟩
 all_goals
  rw[<-Hsh.out]at hr;rw[h1]at HP
 ·have hn:¬0<=T.ar op:=by simpa using h1
  rw[if_neg hn]at HP;subst hr;clear h1 hn Hc
  go_enter func63,ntmps63
  rw[hW1]at x0 x1 x2 x3 x4 x5
  go_wp2_with fail
  rw[<-hW1]at x0 x1 x2 x3 x4 x5⊢;refine(HP.out _).mono ?_;rintro e w' ⟨rfl,rfl⟩;clear hW1;go_wp2;go_ret;exact⟨rfl,HB1.out⟩
 ·have hn:0<=T.ar op:=by simpa using h1
  rw[if_pos hn]at HP;obtain⟨n,hnn⟩:∃n,n=T.ar op:=⟨_,rfl⟩;simp only[<-hnn]at*;clear h1 hn Hc hnn;subst hr
  go_enter func63,ntmps63
  rw[hW1]at x0 x1 x2 x3 x4 x5
  go_wp2_with fail
  rw[<-hW1]at x0 x1 x2 x3 x4 x5⊢;refine(HP.out _).mono ?_;rintro e w' ⟨rfl,rfl⟩;clear hW1;go_wp2;go_ret;exact⟨rfl,HB1.out⟩
 ·have hn:0<=T.ar op:=by simpa using h1
  rw[if_pos hn]at HP;obtain⟨n,hnn⟩:∃n,n=T.ar op:=⟨_,rfl⟩;simp only[<-hnn]at*;clear h1 hn Hc hnn;subst hr
  go_enter func63,ntmps63
  rw[hW1]at x0 x1 x2 x3 x4 x5
  go_wp2_with fail
  rw[<-hW1]at x0 x1 x2 x3 x4 x5⊢;refine(HP.out _).mono ?_;rintro e w' ⟨rfl,rfl⟩;clear hW1;go_wp2;go_ret;exact⟨rfl,HB1.out⟩
 ·have hn:0<=T.ar op:=by simpa using h1
  rw[if_pos hn]at HP;obtain⟨n,hnn⟩:∃n,n=T.ar op:=⟨_,rfl⟩;simp only[<-hnn]at*;clear h1 hn Hc hnn;subst hr
  go_enter func63,ntmps63
  rw[hW1]at x0 x1 x2 x3 x4 x5
  go_wp2_with fail
  rw[<-hW1]at x0 x1 x2 x3 x4 x5⊢;refine(HP.out _).mono ?_;rintro e w' ⟨rfl,rfl⟩;clear hW1;go_wp2;go_ret;exact⟨rfl,HB1.out⟩
 ·have hn:0<=T.ar op:=by simpa using h1
  rw[if_pos hn]at HP;obtain⟨n,hnn⟩:∃n,n=T.ar op:=⟨_,rfl⟩;simp only[<-hnn]at*;clear h1 hn Hc hnn;subst hr
  go_enter func63,ntmps63
  rw[hW1]at x0 x1 x2 x3 x4 x5
  go_wp2_with fail
  rw[<-hW1]at x0 x1 x2 x3 x4 x5⊢;refine(HP.out _).mono ?_;rintro e w' ⟨rfl,rfl⟩;clear hW1;go_wp2;go_ret;exact⟨rfl,HB1.out⟩
 ·have hn:0<=T.ar op:=by simpa using h1
  rw[if_pos hn]at HP;obtain⟨n,hnn⟩:∃n,n=T.ar op:=⟨_,rfl⟩;simp only[<-hnn]at*;clear h1 hn Hc hnn;subst hr;rw[h6]at HI;clear h6
  go_enter func63,ntmps63
  rw[hW1]at x0 x1 x2 x3 x4 x5
  go_wp2_with fail
  rw[<-hW1]at x0 x1 x2 x3 x4 x5⊢;refine(HP.out _).mono ?_;rintro e w' ⟨rfl,rfl⟩;clear hW1
  go_wp2_with fail
  refine(HI.out _ _).mono ?_;rintro e w2 ⟨rfl,hb2⟩;obtain⟨y0,y1,y2,y3,y4,y5⟩:=HX.out w2 hb2;have HS2:=kH (HS.out w2 hb2);have Hb2:=kH (HB1.out.trans (hb2.mono (by have:=Hs1.out;omega)));clear hb2 x0 x1 x2 x3 x4 x5;go_wp2;go_ret;exact⟨rfl,Hb2.out⟩
 ·have hn:0<=T.ar op:=by simpa using h1
  rw[if_pos hn]at HP;obtain⟨n,hnn⟩:∃n,n=T.ar op:=⟨_,rfl⟩;simp only[<-hnn]at*;clear h1 hn Hc hnn;subst hr;rw[h6]at HI;clear h6
  go_enter func63,ntmps63
  rw[hW1]at x0 x1 x2 x3 x4 x5
  go_wp2_with fail
  rw[<-hW1]at x0 x1 x2 x3 x4 x5⊢;refine(HP.out _).mono ?_;rintro e w' ⟨rfl,rfl⟩;clear hW1
  go_wp2_with fail
  refine(HI.out _ _).mono ?_;rintro e w2 ⟨rfl,hb2⟩;obtain⟨y0,y1,y2,y3,y4,y5⟩:=HX.out w2 hb2;have HS2:=kH (HS.out w2 hb2);have Hb2:=kH (HB1.out.trans (hb2.mono (by have:=Hs1.out;omega)));clear hb2 x0 x1 x2 x3 x4 x5;go_wp2;go_ret;exact⟨rfl,Hb2.out⟩
 ·have hn:0<=T.ar op:=by simpa using h1
  rw[if_pos hn]at HP;obtain⟨n,hnn⟩:∃n,n=T.ar op:=⟨_,rfl⟩;simp only[<-hnn]at*;clear h1 hn Hc hnn;have Hr:=kH hr;clear hr;rw[h6]at HI;clear h6
  go_enter func63,ntmps63
  rw[hW1]at x0 x1 x2 x3 x4 x5
  go_wp2_with fail
  rw[<-hW1]at x0 x1 x2 x3 x4 x5⊢;refine(HP.out _).mono ?_;rintro e w' ⟨rfl,rfl⟩;clear hW1
  go_wp2_with fail
  refine(HI.out _ _).mono ?_;rintro e w2 ⟨rfl,hb2⟩;obtain⟨y0,y1,y2,y3,y4,y5⟩:=HX.out w2 hb2;have HS2:=kH (HS.out w2 hb2);have Hb2:=kH (HB1.out.trans (hb2.mono (by have:=Hs1.out;omega)));clear hb2 x0 x1 x2 x3 x4 x5
  go_wp2_with fail
  refine HS2.out.mono ?_;rintro e w' ⟨rfl,rfl⟩;go_wp2;go_ret;exact⟨aA0 (by rw[Hr.out,aNg];simp only[Bool.not_and]),Hb2.out⟩
 ·have hn:0<=T.ar op:=by simpa using h1
  rw[if_pos hn]at HP;obtain⟨n,hnn⟩:∃n,n=T.ar op:=⟨_,rfl⟩;simp only[<-hnn]at*;clear h1 hn Hc hnn;have Hr:=kH hr;clear hr;rw[h6]at HI;clear h6
  go_enter func63,ntmps63
  rw[hW1]at x0 x1 x2 x3 x4 x5
  go_wp2_with fail
  rw[<-hW1]at x0 x1 x2 x3 x4 x5⊢;refine(HP.out _).mono ?_;rintro e w' ⟨rfl,rfl⟩;clear hW1
  go_wp2_with fail
  refine(HI.out _ _).mono ?_;rintro e w2 ⟨rfl,hb2⟩;obtain⟨y0,y1,y2,y3,y4,y5⟩:=HX.out w2 hb2;have HS2:=kH (HS.out w2 hb2);have Hb2:=kH (HB1.out.trans (hb2.mono (by have:=Hs1.out;omega)));clear hb2 x0 x1 x2 x3 x4 x5
  go_wp2_with fail
  refine HS2.out.mono ?_;rintro e w' ⟨rfl,rfl⟩;go_wp2;go_ret;exact⟨aA0 (by rw[Hr.out,aNg];simp only[Bool.not_and]),Hb2.out⟩
theorem aBf{W:World}{At:Option Addr}{n:Nat}{t:List T.Nd}(h:StAt 5 NdR W At n t){j:Nat}(hj:j<n):∃x b off A c,t[j]? =some x/\At=some ⟨b,off,none⟩/\b<W.heap.size/\
 W.cell? ⟨b,off+j*5,none⟩=some (.int .i64 x.op)/\W.cell? ⟨b,off+j*5+1,none⟩=some (.int .i64 x.w)/\W.cell? ⟨b,off+j*5+2,none⟩=some (.int .i64 x.fl)/\W.cell? ⟨b,off+j*5+3,none⟩=some (.slice A x.args.length c)/\W.cell? ⟨b,off+j*5+4,none⟩=some (.int .u32 x.imm)/\
 SlAt (IntR .i64) W A x.args.length x.args/\0<=x.imm/\x.imm<4294967296:=by
 obtain⟨x,b,off,us,hx,hA,hb,_,hc,A,c,rfl,hs,h1,h2⟩:=h.at_ hj;refine⟨x,b,off,A,c,hx,hA,hb,?_,?_,?_,?_,?_,hs,h1,h2⟩
 ·have:=hc 0 _ rfl;rwa [zBI]at this
 ·exact hc 1 _ rfl
 ·exact hc 2 _ rfl
 ·exact hc 3 _ rfl
 ·exact hc 4 _ rfl
theorem aAi{α:Type}{l:List α}{j:Nat}{x d:α}(h:l[j]? =some x):l.getD j d=x:=by rw[zAT,h];rfl
theorem aRv(t:List T.Nd)(args:List Int)(i Bt Bx n m c ct:Nat)(At A:Option Addr)(W:World)(hT:StAt 5 NdR W At n t)(hA:SlAt (IntR .i64) W A m args)(hBt:W.cell? ⟨Bt,0,none⟩=some (.slice At n ct))(hBx:W.cell? ⟨Bx,3,none⟩=some (.slice A m c))
 (hi:i<m) (ha:0<=args.getD i 0/\args.getD i 0<n):
 Calls prog 111 #[.int .i64 (i:Int), .pointer (some ⟨Bt,0,none⟩), .pointer (some ⟨Bx,0,none⟩)] W fun e w'=>e= .returned (.int .i64 (t.getD (args.getD i 0).toNat default).w)/\Dr W w':=by
 obtain⟨y,b,off,u,hy,rfl,hb,hc,rfl⟩:=hA.at_ hi;rw[aAi hy]at ha⊢;obtain⟨j,rfl⟩:∃j:Nat,y=j:=⟨y.toNat,by omega⟩;obtain⟨x,b2,off2,A2,c2,hx,rfl,_,_,hw,_⟩:=aBf hT (j:=j) (by omega);rw[zBA,aAi hx];have hj:j<n:=by omega
 have hle:=hA.le;have hle2:=hT.le;clear hy hA hT hx hb ha
 go_enter func111,ntmps111
 go_wp2
 go_quiet (fail)
 go_wp2;go_ret;exact⟨rfl,_,rfl⟩
theorem aLr(op:Int):(1<=op/\op<=13)\/op=14\/op=15\/op=16\/op=17\/op=18\/(¬(1<=op/\op<=13)/\op≠14/\op≠15/\op≠16/\op≠17/\op≠18):=by omega
theorem aRw{t:List T.Nd}{x:T.Nd}(h:1<=x.op/\x.op<=13):T.typed t x=(decide (T.wd t x 0=x.w) && decide (T.wd t x 1=x.w)):=by unfold T.typed;rw[if_pos h]
theorem aRx{t:List T.Nd}{x:T.Nd}(h:x.op=14):T.typed t x=decide (T.wd t x 0=T.wd t x 1):=by unfold T.typed;rw[if_neg (by omega),if_pos h]
theorem aRy{t:List T.Nd}{x:T.Nd}(h:x.op=15):T.typed t x=(decide (T.wd t x 0=1) && decide (T.wd t x 1=x.w) && decide (T.wd t x 2=x.w)):=by unfold T.typed;rw[if_neg (by omega),if_neg (by omega),if_pos h]
theorem aIo{t:List T.Nd}{x:T.Nd}(h:x.op=16\/x.op=17):T.typed t x=decide (T.wd t x 0<x.w):=by unfold T.typed;rw[if_neg (by omega),if_neg (by omega),if_neg (by omega),if_pos h]
theorem aRz{t:List T.Nd}{x:T.Nd}(h:x.op=18):T.typed t x=decide (x.w<T.wd t x 0):=by unfold T.typed;rw[if_neg (by omega),if_neg (by omega),if_neg (by omega),if_neg (by omega),if_pos h]
theorem aNh{t:List T.Nd}{x:T.Nd}(h:¬(1<=x.op/\x.op<=13)/\x.op≠14/\x.op≠15/\x.op≠16/\x.op≠17/\x.op≠18):T.typed t x=true:=by
 unfold T.typed;rw[if_neg h.1,if_neg h.2.1,if_neg h.2.2.1,if_neg (by omega),if_neg h.2.2.2.2.2]
theorem aR0(t:List T.Nd)(x:T.Nd)(n ct:Nat)(At A:Option Addr)(c:Nat)(W:World)(hT:StAt 5 NdR W At n t)(hA:SlAt (IntR .i64) W A x.args.length x.args)(hlen:(x.args.length:Int)=T.ar x.op)(harg:∀a∈x.args,0<=a/\a<(n:Int)):
 Calls prog 64 #[.slice At n ct,ndV x A c] W fun e w'=>e= .returned (.bool (T.typed t x))/\Below W.heap.size W w':=by
 obtain⟨W1,hW1⟩:∃W1,W1=(W.alloc (.cells #[.slice At n ct] 22)).alloc (.cells #[.int .i64 x.op, .int .i64 x.w, .int .i64 x.fl, .slice A x.args.length c, .int .u32 x.imm] 56):=⟨_,rfl⟩;have hB1:Below W.heap.size W W1:=by rw[hW1];exact(al0).alloc (by simp) _
 have hr0:W1.heap[W.heap.size]? =some (.cells #[.slice At n ct] 22 (0,0)):=by rw[hW1];exact aA1 (heap_alloc_new W _) _
 have hr1:W1.heap[W.heap.size+1]? =some (.cells #[.int .i64 x.op, .int .i64 x.w, .int .i64 x.fl, .slice A x.args.length c, .int .u32 x.imm] 56 (0,0)):=by rw[hW1];exact aC2 W _ _
 have HQ:∀i,i<x.args.length->Hid (∀nn,Calls prog 111 #[.int .i64 (i:Int), .pointer (some ⟨W.heap.size,0,none⟩), .pointer (some ⟨W.heap.size+1,0,none⟩)] (W1.drewN nn) fun e w''=>e= .returned (.int .i64 (T.wd t x i))/\∃m,w''=W1.drewN m):=fun i hi=>by
  intro nn;have hb:=hB1.dr ⟨nn,rfl⟩;have ha:=harg _ (zBM hi);have hc:=aRv t x.args i W.heap.size (W.heap.size+1) n x.args.length c ct At A (W1.drewN nn) (hT.below aAh hb) (hA.below (aAd _) hb) (by rw[cell_of_row (W1.drewN nn) _ _ _ _ (0,0) hr0];rfl) (by rw[cell_of_row (W1.drewN nn) _ _ _ _ (0,0) hr1];rfl) hi (by rw[zAT,zAB hi];exact ha);exact Calls.quiet_of (hc.mono fun e w' ⟨h1,m,h2⟩=>⟨h1,m,h2⟩)
 obtain⟨op,w,fl,args,imm⟩:=x;rw[show ndV ⟨op,w,fl,args,imm⟩ A c= .agg #[.int .i64 op, .int .i64 w, .int .i64 fl, .slice A args.length c, .int .u32 imm]from rfl]
 dsimp only at HQ hW1 hlen
 have HB1:=kH hB1;have hle:=hA.le
 dsimp only at hr1
 have x0:W1.cell? ⟨W.heap.size+1,0,none⟩=some (.int .i64 op):=by rw[cell_of_row _ _ _ _ _ (0,0) hr1];rfl
 have x1:W1.cell? ⟨W.heap.size+1,1,none⟩=some (.int .i64 w):=by rw[cell_of_row _ _ _ _ _ (0,0) hr1];rfl
 rcases aLr op with h | h | h | h | h | h | h
 ·have hl2:(args.length:Int)=2:=by rw[hlen];unfold T.ar;rw[if_neg (by omega),if_pos (by omega)]
  have Q0:Hid (∀nn,Calls prog 111 #[.int .i64 0, .pointer (some ⟨W.heap.size,0,none⟩), .pointer (some ⟨W.heap.size+1,0,none⟩)] (W1.drewN nn) fun e w''=>e= .returned (.int .i64 (T.wd t ⟨op,w,fl,args,imm⟩ 0))/\∃m,w''=W1.drewN m):=HQ 0 (by omega);have Q1:Hid (∀nn,Calls prog 111 #[.int .i64 1, .pointer (some ⟨W.heap.size,0,none⟩), .pointer (some ⟨W.heap.size+1,0,none⟩)] (W1.drewN nn) fun e w''=>e= .returned (.int .i64 (T.wd t ⟨op,w,fl,args,imm⟩ 1))/\∃m,w''=W1.drewN m):=HQ 1 (by omega);have q1:decide (1<=op)=true:=by simpa using h.1
  have q2:decide (op<=13)=true:=by simpa using h.2
  rw[aRw h]
  dsimp only
  obtain⟨a0,h0⟩:∃a0,a0=T.wd t ⟨op,w,fl,args,imm⟩ 0:=⟨_,rfl⟩;obtain⟨a1,h1⟩:∃a1,a1=T.wd t ⟨op,w,fl,args,imm⟩ 1:=⟨_,rfl⟩;rw[<-h0]at Q0⊢;rw[<-h1]at Q1⊢;clear HQ hr0 hr1 hT hA harg hlen hB1;clear h0 h1 h hl2
  by_cases e0:a0=w
  ·have z0:(a0 == w)=true:=by simpa using e0
   have hd:(decide (a0=w) && decide (a1=w))=(a1 == w):=by rw[zBO e0,Bool.true_and];by_cases h:a1=w <;> simp[h]
   rw[hd];clear e0 hd
   go_enter func64,ntmps64
   go_wp2;rw[<-hW1];clear hW1
   go_quiet ((go_at_call 111;first | with_reducible exact Q0.out _ | with_reducible exact Q1.out _ | fail))
   go_wp2;go_ret;exact⟨rfl,HB1.out.dr ⟨_,rfl⟩⟩
  ·have z0:(a0 == w)=false:=by simpa using e0
   rw[zBP e0,Bool.false_and];clear e0
   go_enter func64,ntmps64
   go_wp2;rw[<-hW1];clear hW1
   go_quiet ((go_at_call 111;first | with_reducible exact Q0.out _ | with_reducible exact Q1.out _ | fail))
   go_wp2;go_ret;exact⟨rfl,HB1.out.dr ⟨_,rfl⟩⟩
 ·have hl2:(args.length:Int)=2:=by rw[hlen];unfold T.ar;rw[if_neg (by omega),if_pos (by omega)]
  have Q0:Hid (∀nn,Calls prog 111 #[.int .i64 0, .pointer (some ⟨W.heap.size,0,none⟩), .pointer (some ⟨W.heap.size+1,0,none⟩)] (W1.drewN nn) fun e w''=>e= .returned (.int .i64 (T.wd t ⟨op,w,fl,args,imm⟩ 0))/\∃m,w''=W1.drewN m):=HQ 0 (by omega);have Q1:Hid (∀nn,Calls prog 111 #[.int .i64 1, .pointer (some ⟨W.heap.size,0,none⟩), .pointer (some ⟨W.heap.size+1,0,none⟩)] (W1.drewN nn) fun e w''=>e= .returned (.int .i64 (T.wd t ⟨op,w,fl,args,imm⟩ 1))/\∃m,w''=W1.drewN m):=HQ 1 (by omega);rw[aRx h]
  try dsimp only at h⊢
  obtain⟨a0,h0⟩:∃a0,a0=T.wd t ⟨op,w,fl,args,imm⟩ 0:=⟨_,rfl⟩;obtain⟨a1,h1⟩:∃a1,a1=T.wd t ⟨op,w,fl,args,imm⟩ 1:=⟨_,rfl⟩;rw[<-h0]at Q0⊢;rw[<-h1]at Q1⊢;clear HQ hr0 hr1 hT hA harg hlen hB1;clear h0 h1 hl2;subst h;have hd:decide (a0=a1)=(a0 == a1):=by by_cases h:a0=a1 <;> simp[h]
  rw[hd];clear hd
  go_enter func64,ntmps64
  go_wp2_with fail
  rw[<-hW1];clear hW1;refine Calls.mono (w:=W1) (Q0.out 0) ?_;rintro e w2 ⟨rfl,m0,rfl⟩
  go_wp2_with fail
  refine(Q1.out m0).mono ?_;rintro e w3 ⟨rfl,m1,rfl⟩;go_wp2;go_ret;exact⟨rfl,HB1.out.dr ⟨_,rfl⟩⟩
 ·have hl3:(args.length:Int)=3:=by rw[hlen];unfold T.ar;rw[if_neg (by omega),if_neg (by omega),if_pos (by omega)]
  have Q0:Hid (∀nn,Calls prog 111 #[.int .i64 0, .pointer (some ⟨W.heap.size,0,none⟩), .pointer (some ⟨W.heap.size+1,0,none⟩)] (W1.drewN nn) fun e w''=>e= .returned (.int .i64 (T.wd t ⟨op,w,fl,args,imm⟩ 0))/\∃m,w''=W1.drewN m):=HQ 0 (by omega);have Q1:Hid (∀nn,Calls prog 111 #[.int .i64 1, .pointer (some ⟨W.heap.size,0,none⟩), .pointer (some ⟨W.heap.size+1,0,none⟩)] (W1.drewN nn) fun e w''=>e= .returned (.int .i64 (T.wd t ⟨op,w,fl,args,imm⟩ 1))/\∃m,w''=W1.drewN m):=HQ 1 (by omega);have Q2:Hid (∀nn,Calls prog 111 #[.int .i64 2, .pointer (some ⟨W.heap.size,0,none⟩), .pointer (some ⟨W.heap.size+1,0,none⟩)] (W1.drewN nn) fun e w''=>e= .returned (.int .i64 (T.wd t ⟨op,w,fl,args,imm⟩ 2))/\∃m,w''=W1.drewN m):=HQ 2 (by omega);rw[aRy h]
  try dsimp only at h⊢
  obtain⟨a0,h0⟩:∃a0,a0=T.wd t ⟨op,w,fl,args,imm⟩ 0:=⟨_,rfl⟩;obtain⟨a1,h1⟩:∃a1,a1=T.wd t ⟨op,w,fl,args,imm⟩ 1:=⟨_,rfl⟩;obtain⟨a2,h2⟩:∃a2,a2=T.wd t ⟨op,w,fl,args,imm⟩ 2:=⟨_,rfl⟩;rw[<-h0]at Q0⊢;rw[<-h1]at Q1⊢;rw[<-h2]at Q2⊢;clear HQ hr0 hr1 hT hA harg hlen hB1;clear h0 h1 h2 hl3;subst h
  by_cases e0:a0=1
  ·have z0:(a0 == 1)=true:=by simpa using e0
   by_cases e1:a1=w
   ·have z1:(a1 == w)=true:=by simpa using e1
    have hd:(decide (a0=1) && decide (a1=w) && decide (a2=w))=(a2 == w):=by rw[zBO e0,zBO e1,Bool.true_and,Bool.true_and];by_cases h:a2=w <;> simp[h]
    rw[hd];clear e0 e1 hd
    go_enter func64,ntmps64
    go_wp2;rw[<-hW1];clear hW1
    go_quiet ((go_at_call 111;first | with_reducible exact Q0.out _ | with_reducible exact Q1.out _ | with_reducible exact Q2.out _ | fail))
    go_wp2;go_ret;exact⟨rfl,HB1.out.dr ⟨_,rfl⟩⟩
   ·have z1:(a1 == w)=false:=by simpa using e1
    rw[zBP e1,Bool.and_false,Bool.false_and];clear e0 e1
    go_enter func64,ntmps64
    go_wp2;rw[<-hW1];clear hW1
    go_quiet ((go_at_call 111;first | with_reducible exact Q0.out _ | with_reducible exact Q1.out _ | with_reducible exact Q2.out _ | fail))
    go_wp2;go_ret;exact⟨rfl,HB1.out.dr ⟨_,rfl⟩⟩
  ·have z0:(a0 == 1)=false:=by simpa using e0
   rw[zBP e0,Bool.false_and,Bool.false_and];clear e0
   go_enter func64,ntmps64
   go_wp2;rw[<-hW1];clear hW1
   go_quiet ((go_at_call 111;first | with_reducible exact Q0.out _ | with_reducible exact Q1.out _ | with_reducible exact Q2.out _ | fail))
   go_wp2;go_ret;exact⟨rfl,HB1.out.dr ⟨_,rfl⟩⟩
 ·have hl1:(args.length:Int)=1:=by rw[hlen];unfold T.ar;rw[if_neg (by omega),if_neg (by omega),if_neg (by omega),if_pos (by omega)]
  have Q0:Hid (∀nn,Calls prog 111 #[.int .i64 0, .pointer (some ⟨W.heap.size,0,none⟩), .pointer (some ⟨W.heap.size+1,0,none⟩)] (W1.drewN nn) fun e w''=>e= .returned (.int .i64 (T.wd t ⟨op,w,fl,args,imm⟩ 0))/\∃m,w''=W1.drewN m):=HQ 0 (by omega);rw[aIo (.inl h)]
  try dsimp only at h⊢
  obtain⟨a0,h0⟩:∃a0,a0=T.wd t ⟨op,w,fl,args,imm⟩ 0:=⟨_,rfl⟩;rw[<-h0]at Q0⊢;clear HQ hr0 hr1 hT hA harg hlen hB1;clear h0 hl1;subst h
  go_enter func64,ntmps64
  go_wp2;rw[<-hW1];clear hW1
  go_quiet ((go_at_call 111;first | with_reducible exact Q0.out _ | fail))
  go_wp2;go_ret;exact⟨rfl,HB1.out.dr ⟨_,rfl⟩⟩
 ·have hl1:(args.length:Int)=1:=by rw[hlen];unfold T.ar;rw[if_neg (by omega),if_neg (by omega),if_neg (by omega),if_pos (by omega)]
  have Q0:Hid (∀nn,Calls prog 111 #[.int .i64 0, .pointer (some ⟨W.heap.size,0,none⟩), .pointer (some ⟨W.heap.size+1,0,none⟩)] (W1.drewN nn) fun e w''=>e= .returned (.int .i64 (T.wd t ⟨op,w,fl,args,imm⟩ 0))/\∃m,w''=W1.drewN m):=HQ 0 (by omega);rw[aIo (.inr h)]
  try dsimp only at h⊢
  obtain⟨a0,h0⟩:∃a0,a0=T.wd t ⟨op,w,fl,args,imm⟩ 0:=⟨_,rfl⟩;rw[<-h0]at Q0⊢;clear HQ hr0 hr1 hT hA harg hlen hB1;clear h0 hl1;subst h
  go_enter func64,ntmps64
  go_wp2;rw[<-hW1];clear hW1
  go_quiet ((go_at_call 111;first | with_reducible exact Q0.out _ | fail))
  go_wp2;go_ret;exact⟨rfl,HB1.out.dr ⟨_,rfl⟩⟩
 ·have hl1:(args.length:Int)=1:=by rw[hlen];unfold T.ar;rw[if_neg (by omega),if_neg (by omega),if_neg (by omega),if_pos (by omega)]
  have Q0:Hid (∀nn,Calls prog 111 #[.int .i64 0, .pointer (some ⟨W.heap.size,0,none⟩), .pointer (some ⟨W.heap.size+1,0,none⟩)] (W1.drewN nn) fun e w''=>e= .returned (.int .i64 (T.wd t ⟨op,w,fl,args,imm⟩ 0))/\∃m,w''=W1.drewN m):=HQ 0 (by omega);rw[aRz h]
  try dsimp only at h⊢
  obtain⟨a0,h0⟩:∃a0,a0=T.wd t ⟨op,w,fl,args,imm⟩ 0:=⟨_,rfl⟩;rw[<-h0]at Q0⊢;clear HQ hr0 hr1 hT hA harg hlen hB1;clear h0 hl1;subst h
  go_enter func64,ntmps64
  go_wp2;rw[<-hW1];clear hW1
  go_quiet ((go_at_call 111;first | with_reducible exact Q0.out _ | fail))
  go_wp2;go_ret;exact⟨rfl,HB1.out.dr ⟨_,rfl⟩⟩
 ·rw[aNh h];obtain⟨h1,h2,h3,h4,h5,h6⟩:=h;have q14:(op == 14)=false:=by simpa using h2
  have q15:(op == 15)=false:=by simpa using h3
  have q16:(op == 16)=false:=by simpa using h4
  have q17:(op == 17)=false:=by simpa using h5
  have q18:(op == 18)=false:=by simpa using h6
  clear HQ hr0 hr1 hT hA harg hlen hB1 x0 x1
  by_cases hp:1<=op
  ·have q1:decide (1<=op)=true:=by simpa using hp
   have q2:decide (op<=13)=false:=by simp;omega
   clear h1 h2 h3 h4 h5 h6 hp
   go_enter func64,ntmps64
   go_wp2;go_ret;exact⟨rfl,by have:=HB1.out;rwa [hW1]at this⟩
  ·have q1:decide (1<=op)=false:=by simpa using hp
   clear h1 h2 h3 h4 h5 h6 hp
   go_enter func64,ntmps64
   go_wp2;go_ret;exact⟨rfl,by have:=HB1.out;rwa [hW1]at this⟩
def WdR(t:List T.Nd)(W:World)(e:Ending)(w':World):Prop:=Below W.heap.size W w'/\
 ((T.aAw t=true/\e= .returned (.tuple #[.slice none 0 0, .bool false]))\/
  (T.aAw t=false/\∃g,e= .returned (.tuple #[.slice (some ⟨g,0,none⟩) 4 4, .bool true])/\W.heap.size<=g/\w'.heap[g]? =some (.cells ((T.aAa t).map (Value.int .i64)).toArray 3 (0,0))))
theorem aLa(t:List T.Nd){v:Nat}(hv:v<4):∃z,(T.aAa t)[v]? =some z:=⟨_,zAB (by rw[T.aA9];exact hv)⟩
theorem aLs(t:List T.Nd)(n ct:Nat)(At:Option Addr)(W:World)(hT:StAt 5 NdR W At n t)(hok:T.aGi t)(hn:n<=1000000):
 Calls prog 65 #[.slice At n ct] W (WdR t W):=by
 have HT:=kH hT;have Hok:=kH hok;have Hlen:=kH hT.len;clear hT hok;have hmk:=fun(W':World)=>aBd (P:=prog) 37 3 (.int .i64 0) 8 underlying37 infoInt rfl .i64 .i64 4 (4:Int) rfl (by omega) (by omega) W'
 go_enter func65,ntmps65
 go_wp2;clear hmk
 go_loopg [11] (n+1) (fun g i wr=>∃(j:Nat),j<=n/\i= .int .i64 (j:Int)/\g+j=n+1/\Below W.heap.size W wr/\Hid (T.aAw (t.take j)=false)/\Hid (wr.heap[W.heap.size]? =some (.cells ((T.aAa (t.take j)).map (Value.int .i64)).toArray 3 (0,0))))
 case atStart=>exact⟨0,zBL _,rfl,rfl,al0,by show _=_;rw[List.take_zero];rfl,by show _=_;rw[List.take_zero];exact heap_alloc_new W _⟩
 case round=>
  obtain⟨j,hj,rfl,hgk,hbw,HC,HW⟩:=hrel;have Hgk:=kH hgk;clear hgk
  by_cases hlt:j<n
  ·obtain⟨x,b,off,A,c,hx,rfl,hb,h0,h1,h2,h3,h4,hs,i0,i1⟩:=aBf HT.out hlt;have k0:=(hbw.cell (p:=⟨b,off+j*5,none⟩) hb).trans h0;have k1:=(hbw.cell (p:=⟨b,off+j*5+1,none⟩) hb).trans h1;have k2:=(hbw.cell (p:=⟨b,off+j*5+2,none⟩) hb).trans h2;have k3:=(hbw.cell (p:=⟨b,off+j*5+3,none⟩) hb).trans h3;have k4:=(hbw.cell (p:=⟨b,off+j*5+4,none⟩) hb).trans h4;have Hx:=kH hx;have Htk:=kH (show t.take (j+1)=t.take j ++ [x]from K.aFl hx);have Hokx:=kH (Hok.out x (zAC hx));have hbs:=hbw.size;have hlt0:W.heap.size<wr.heap.size:=(gA HW.out).1;obtain⟨op,w,fl,args,imm⟩:=x
   dsimp only at k0 k1 k2 k3 k4 Hokx i0 i1
   clear h0 h1 h2 h3 h4 hs hx hb;have Hbw:=kH (hbw.alloc hbw.size (.cells #[.int .i64 op, .int .i64 w, .int .i64 fl, .slice A args.length c, .int .u32 imm] 56));have HW1:=kH (aA1 HW.out (.cells #[.int .i64 op, .int .i64 w, .int .i64 fl, .slice A args.length c, .int .u32 imm] 56));have HbwR:=kH hbw;clear hbw
   by_cases ho:op=33
   ·have Ho:=kH ho;obtain⟨m4,w1⟩:=Hokx.out.2 ho;subst ho;obtain⟨v,rfl⟩:∃v:Nat,imm=v:=⟨imm.toNat,by omega⟩;have hv4:v<4:=by omega
    obtain⟨z,hz⟩:=aLa (t.take j) hv4;have hcz:(wr.alloc (.cells #[.int .i64 33, .int .i64 w, .int .i64 fl, .slice A args.length c, .int .u32 (v:Int)] 56)).cell? ⟨W.heap.size,v,none⟩=some (.int .i64 z):=by
     rw[cell_of_row _ _ _ _ _ (0,0) HW1.out,zAV,zAW,hz];rfl
    have Hz:=kH hz;have hfz:(wr.alloc (.cells #[.int .i64 33, .int .i64 w, .int .i64 fl, .slice A args.length c, .int .u32 (v:Int)] 56)).frozen? ⟨W.heap.size,v,none⟩=false:=by simp[World.frozen?,HW1.out]
    clear hz Ho
    by_cases hg:z=0\/z=w
    ·have HC2:=kH (show T.aAw (t.take (j+1))=false from by
      rw[Htk.out];exact T.aWh HC.out (Hok.out.take j) rfl (by exact Int.natCast_nonneg v) (v:=z) (by rw[zBA];exact Hz.out) hg)
     have HW2:=kH (show((wr.setCell ⟨W.heap.size,v,none⟩ (.int .i64 w)).alloc (.cells #[.int .i64 33, .int .i64 w, .int .i64 fl, .slice A args.length c, .int .u32 (v:Int)] 56)).heap[W.heap.size]? =some (.cells ((T.aAa (t.take (j+1))).map (Value.int .i64)).toArray 3 (0,0))from by
      refine aA1 ?_ _;rw[heap_setCell_same _ _ _ _ _ _ HW.out,Htk.out,T.aCo,if_pos rfl];simp[List.map_set])
     have Hb2:=kH (show Below W.heap.size W ((wr.setCell ⟨W.heap.size,v,none⟩ (.int .i64 w)).alloc (.cells #[.int .i64 33, .int .i64 w, .int .i64 fl, .slice A args.length c, .int .u32 (v:Int)] 56))from(HbwR.out.setCell (p:=⟨W.heap.size,v,none⟩) (zBJ _) (.int .i64 w)).alloc (by simp;exact HbwR.out.size) _);rcases hg with rfl | rfl
     ·have z1:((0:Int) != 0)=false:=rfl;go_wp2
      go_roundg (gk-1)
      case measure=>have:=Hgk.out;omega
      case rel=>have:=Hgk.out;exact⟨j+1,by omega,by go_num,by omega,Hb2.out,HC2.out,HW2.out⟩
     ·have z1:(z != 0)=true:=by simp;omega
      have z2:(z != z)=false:=by simp
      go_wp2
      go_roundg (gk-1)
      case measure=>have:=Hgk.out;omega
      case rel=>have:=Hgk.out;exact⟨j+1,by omega,by go_num,by omega,Hb2.out,HC2.out,HW2.out⟩
    ·have z1:(z != 0)=true:=by simp;omega
     have z2:(z != w)=true:=by simp;omega
     have HC2:=kH (show T.aAw t=true from T.aRp (j:=j+1) (by
      rw[Htk.out];exact T.aYo (Hok.out.take j) rfl (by exact Int.natCast_nonneg v) (v:=z) (by rw[zBA];exact Hz.out) (fun h=>hg (.inl h)) (fun h=>hg (.inr h))))
     clear hg;go_wp2;go_ret2;exact⟨Hbw.out, .inl ⟨HC2.out,rfl⟩⟩
   ·have q:(op != 33)=true:=by simpa using ho
    have HC2:=kH (show T.aAw (t.take (j+1))=false from by rw[Htk.out];exact T.aH2 HC.out ho);have HW2:=kH (show(wr.alloc (.cells #[.int .i64 op, .int .i64 w, .int .i64 fl, .slice A args.length c, .int .u32 imm] 56)).heap[W.heap.size]? =some (.cells ((T.aAa (t.take (j+1))).map (Value.int .i64)).toArray 3 (0,0))from by rw[Htk.out,T.aCo,if_neg ho];exact HW1.out);clear ho;go_wp2
    go_roundg (gk-1)
    case measure=>have:=Hgk.out;omega
    case rel=>have:=Hgk.out;exact⟨j+1,by omega,by go_num,by omega,Hbw.out,HC2.out,HW2.out⟩
  ·obtain rfl:j=n:=by omega
   have e:t.take j=t:=zAK (by rw[Hlen.out];exact zBJ _);rw[e]at HC HW;go_wp2;go_ret2;exact⟨hbw, .inr ⟨HC.out,W.heap.size,rfl,zBJ _,HW.out⟩⟩
theorem aBq{W:World}{At:Option Addr}{n:Nat}{t:List T.Nd}(h:StAt 5 NdR W At n t):∀y∈t,0<=y.imm:=fun y hy=>by
 obtain⟨i,hi⟩:=List.mem_iff_getElem?.1 hy;have hl:i<n:=by have:=(zAA.1 hi).1;rw[h.len]at this;exact this
 obtain⟨x,_,_,_,_,hx,_,_,_,_,_,_,_,_,h0,_⟩:=aBf h hl;rw[hi]at hx;cases hx;exact h0
theorem aEz(t:List T.Nd)(n ct:Nat)(At:Option Addr)(W:World)(hT:StAt 5 NdR W At n t):
 Calls prog 38 #[.slice At n ct] W fun e w'=>e= .returned (.int .i64 (T.valid true t))/\Below W.heap.size W w':=by
 have HT:=kH hT;have hle:=hT.le;have hlen:=hT.len;have Him:=kH (aBq hT);clear hT
 by_cases hsz:t.length<1\/300<t.length
 ·have hv:T.valid true t=3:=by unfold T.valid;rw[if_pos hsz]
  rw[hv];rw[hlen]at hsz;clear hv hlen
  by_cases h0:n<1
  ·have q0:decide ((n:Int) < 1)=true:=by simp;omega
   clear hsz
   go_enter func38,ntmps38
   go_wp2;go_ret;exact⟨rfl,Below.refl _ _⟩
  ·have q0:decide ((n:Int) < 1)=false:=by simp;omega
   have q1:decide (300<(n:Int))=true:=by simp;omega
   clear hsz
   go_enter func38,ntmps38
   go_wp2;go_ret;exact⟨rfl,Below.refl _ _⟩
 ·have Hv:=kH (show T.valid true t=if(t.zipIdx.all fun p=>T.aAq true p.2 p.1)=false then 1 else if(t.all (T.typed t))=false then 6 else if T.aAw t=true then 7 else 0 from by unfold T.valid;rw[if_neg hsz]);rw[hlen]at hsz;have q0:decide ((n:Int) < 1)=false:=by simp;omega
  have q1:decide (300<(n:Int))=false:=by simp;omega
  have hn:n<=300:=by omega
  have Hlen:=kH hlen;clear hsz hlen
  go_enter func38,ntmps38
  go_wp2
  try simp only[q0,q1]
  clear q0 q1
  go_loopg [19] (n+1) (fun g i wr=>∃(j:Nat),j<=n/\i= .int .i64 (j:Int)/\g+j=n+1/\Below W.heap.size W wr/\Hid (T.aE4 true t j))
  case atStart=>exact⟨0,zBL _,rfl,rfl,Below.refl _ _,fun i x hi=>by omega⟩
  case round=>
   obtain⟨j,hj,rfl,hgk,hbw,HS⟩:=hrel;have Hgk:=kH hgk;clear hgk
   by_cases hlt:j<n
   ·obtain⟨x,b,off,A,c,hx,rfl,hb,h0,h1,h2,h3,h4,hs,i0,i1⟩:=aBf HT.out hlt;have k0:=(hbw.cell (p:=⟨b,off+j*5,none⟩) hb).trans h0;have k1:=(hbw.cell (p:=⟨b,off+j*5+1,none⟩) hb).trans h1;have k2:=(hbw.cell (p:=⟨b,off+j*5+2,none⟩) hb).trans h2;have k3:=(hbw.cell (p:=⟨b,off+j*5+3,none⟩) hb).trans h3;have k4:=(hbw.cell (p:=⟨b,off+j*5+4,none⟩) hb).trans h4;have Hx:=kH hx;have Hbw:=kH (hbw.alloc hbw.size (.cells #[.int .i64 x.op, .int .i64 x.w, .int .i64 x.fl, .slice A x.args.length c, .int .u32 x.imm] 56));have Hc:=kH (aQh j x A c (wr.alloc (.cells #[.int .i64 x.op, .int .i64 x.w, .int .i64 x.fl, .slice A x.args.length c, .int .u32 x.imm] 56)) (by
     have:=hs.below (aAd _) hbw;exact this.below (aAd _) (al0)))
    unfold ndV at Hc;clear h0 h1 h2 h3 h4 hs hx hb hbw;cases hsh:T.aAq true j x
    ·rw[hsh]at Hc;have Hsh:=kH hsh;clear hsh
     go_wp2_with fail
     refine Hc.out.mono ?_;rintro e w2 ⟨rfl,hb2⟩;have Hb2:=kH (Hbw.out.trans (hb2.mono Hbw.out.size));clear hb2 k0 k1 k2 k3 k4;go_wp2;go_ret;exact⟨aB3 (by rw[Hv.out,T.aM3 Hx.out Hsh.out];rfl),Hb2.out⟩
    ·rw[hsh]at Hc;have Hsh:=kH hsh;clear hsh
     go_wp2_with fail
     refine Hc.out.mono ?_;rintro e w2 ⟨rfl,hb2⟩;have Hb2:=kH (Hbw.out.trans (hb2.mono Hbw.out.size));clear hb2 k0 k1 k2 k3 k4;go_wp2
     go_roundg (gk-1)
     case measure=>have:=Hgk.out;omega
     case rel=>have:=Hgk.out;exact⟨j+1,by omega,by go_num,by omega,Hb2.out,HS.out.next Hx.out Hsh.out⟩
   ·obtain rfl:j=n:=by omega
    have hall:=HS.out.all (by rw[Hlen.out];exact zBJ _);have Hall:=kH (T.aEg.1 hall);have Hv2:=kH (show T.valid true t=if(t.all (T.typed t))=false then 6 else if T.aAw t=true then 7 else 0 from by rw[Hv.out,hall];rfl);have Hbw:=kH hbw;clear hall hbw HS;go_wp2
    go_loopg [31] (j+1) (fun g i wr=>∃(p:Nat),p<=j/\i= .int .i64 (p:Int)/\g+p=j+1/\Below W.heap.size W wr/\Hid (T.aF1 t p))
    case atStart=>exact⟨0,zBL _,rfl,rfl,Hbw.out,fun i x hi=>by omega⟩
    case round=>
     clear Hbw;obtain⟨p,hp,rfl,hgk,hbw,HS⟩:=hrel;have Hgk2:=kH hgk;clear hgk
     by_cases hlt:p<j
     ·obtain⟨x,b,off,A,c,hx,rfl,hb,h0,h1,h2,h3,h4,hs,i0,i1⟩:=aBf HT.out hlt;have k0:=(hbw.cell (p:=⟨b,off+p*5,none⟩) hb).trans h0;have k1:=(hbw.cell (p:=⟨b,off+p*5+1,none⟩) hb).trans h1;have k2:=(hbw.cell (p:=⟨b,off+p*5+2,none⟩) hb).trans h2;have k3:=(hbw.cell (p:=⟨b,off+p*5+3,none⟩) hb).trans h3;have k4:=(hbw.cell (p:=⟨b,off+p*5+4,none⟩) hb).trans h4;have Hx:=kH hx;obtain⟨g1,g2,_,_,_,g3⟩:=T.aAo (Hall.out p x hx);have Hbw:=kH (hbw.alloc hbw.size (.cells #[.int .i64 x.op, .int .i64 x.w, .int .i64 x.fl, .slice A x.args.length c, .int .u32 x.imm] 56));have Hc:=kH (aR0 t x j ct (some ⟨b,off,none⟩) A c (wr.alloc (.cells #[.int .i64 x.op, .int .i64 x.w, .int .i64 x.fl, .slice A x.args.length c, .int .u32 x.imm] 56)) (HT.out.below aAh Hbw.out) (hs.below (aAd _) Hbw.out) g1 (fun a ha=>by have:=g3 a ha;omega));unfold ndV at Hc;clear h0 h1 h2 h3 h4 hs hx hb hbw g1 g2 g3;cases hsh:T.typed t x
      ·rw[hsh]at Hc;have Hsh:=kH hsh;clear hsh
       go_wp2_with fail
       refine Hc.out.mono ?_;rintro e w2 ⟨rfl,hb2⟩;have Hb2:=kH (Hbw.out.trans (hb2.mono Hbw.out.size));clear hb2 k0 k1 k2 k3 k4;go_wp2;go_ret;exact⟨aB3 (by rw[Hv2.out,T.aO8 Hx.out Hsh.out];rfl),Hb2.out⟩
      ·rw[hsh]at Hc;have Hsh:=kH hsh;clear hsh
       go_wp2_with fail
       refine Hc.out.mono ?_;rintro e w2 ⟨rfl,hb2⟩;have Hb2:=kH (Hbw.out.trans (hb2.mono Hbw.out.size));clear hb2 k0 k1 k2 k3 k4;go_wp2
       go_roundg (gk-1)
       case measure=>have:=Hgk2.out;omega
       case rel=>have:=Hgk2.out;exact⟨p+1,by omega,by go_num,by omega,Hb2.out,HS.out.next Hx.out Hsh.out⟩
     ·obtain rfl:p=j:=by omega
      have hall:=HS.out.all (by rw[Hlen.out];exact zBJ _);have Hv3:=kH (show T.valid true t=if T.aAw t=true then 7 else 0 from by rw[Hv2.out,hall];rfl);have Hw:=kH (aLs t p ct At wr (HT.out.below aAh hbw) (T.aFc Hall.out Him.out) (by omega));have Hbw:=kH hbw;clear hall hbw HS
      go_wp2_with fail
      refine Hw.out.mono ?_;rintro e w2 ⟨hb2,(⟨hc,rfl⟩ |⟨hc,g,rfl,_,_⟩)⟩
      ·have Hc:=kH hc;have Hb2:=kH (Hbw.out.trans (hb2.mono Hbw.out.size));clear hc hb2;go_wp2;go_ret;exact⟨aB3 (by rw[Hv3.out,Hc.out];rfl),Hb2.out⟩
      ·have Hc:=kH hc;have Hb2:=kH (Hbw.out.trans (hb2.mono Hbw.out.size));clear hc hb2;go_wp2;go_ret;exact⟨aB3 (by rw[Hv3.out,Hc.out];rfl),Hb2.out⟩
def WsR(t:List T.Nd)(W:World)(e:Ending)(w':World):Prop:=Below W.heap.size W w'/\
 ((T.valid true t≠0/\e= .returned (.tuple #[.slice none 0 0, .int .i64 (T.valid true t)]))\/
  (T.valid true t=0/\∃g,e= .returned (.tuple #[.slice (some ⟨g,0,none⟩) 4 4, .int .i64 0])/\W.heap.size<=g/\w'.heap[g]? =some (.cells ((T.aAa t).map (Value.int .i64)).toArray 3 (0,0))))
theorem aBk{z:Bool}{t:List T.Nd}(h:T.valid z t=0):1<=t.length/\t.length<=300/\(∀i x,t[i]? =some x->T.aAq z i x=true)/\(∀x∈t,T.typed t x=true)/\T.aAw t=false:=by
 unfold T.valid at h;split at h
 ·cases h
 ·rename_i h1;split at h
  ·cases h
  ·rename_i h2;split at h
   ·cases h
   ·rename_i h3;split at h
    ·cases h
    ·rename_i h4;exact⟨by omega,by omega,T.aEg.1 (by simpa using h2),zAD.1 (by simpa using h3),by simpa using h4⟩
theorem aDs(t:List T.Nd)(n ct:Nat)(At:Option Addr)(W:World)(hT:StAt 5 NdR W At n t):Calls prog 41 #[.slice At n ct] W (WsR t W):=by
 have HV:=kH (aEz t n ct At W hT);have HT:=kH hT;have hlen:=hT.len;clear hT
 by_cases hv:T.valid true t=0
 ·obtain⟨v1,v2,v3,v4,v5⟩:=aBk hv;rw[hv]at HV;have HW:=kH (fun W' (h:Below W.heap.size W W')=>aLs t n ct At W' (HT.out.below aAh h) (T.aFc v3 (aBq HT.out)) (by omega));have Hv:=kH hv;have Hc:=kH v5;clear hv v1 v2 v3 v4 v5 hlen
  go_enter func41,ntmps41
  go_wp2_with fail
  refine HV.out.mono ?_;rintro e w1 ⟨rfl,hb1⟩;have Hb1:=kH hb1;clear hb1
  go_wp2_with fail
  refine(HW.out _ Hb1.out).mono ?_;rintro e w2 ⟨hb2,(⟨hc,rfl⟩ |⟨_,g,rfl,hg,hrow⟩)⟩
  ·rw[Hc.out]at hc;cases hc
  ·have Hb2:=kH (Hb1.out.trans (hb2.mono Hb1.out.size));have Hg:=kH (zBK Hb1.out.size hg);have Hrow:=kH hrow;clear hb2 hg hrow;go_wp2;go_ret2;exact⟨Hb2.out, .inr ⟨Hv.out,g,rfl,Hg.out,Hrow.out⟩⟩
 ·have Hv:=kH hv;obtain⟨er,her⟩:∃er,er=T.valid true t:=⟨_,rfl⟩;rw[<-her]at HV hv;have hvb:(er != 0)=true:=by simpa using hv
  have Her:=kH her;clear her hlen
  go_enter func41,ntmps41
  go_wp2_with fail
  refine HV.out.mono ?_;rintro e w1 ⟨rfl,hb1⟩;have Hb1:=kH hb1;clear hb1;go_wp2;go_ret2;exact⟨Hb1.out, .inl ⟨Hv.out,by rw[<-Her.out];rfl⟩⟩
theorem aWl(op:Int)(W:World):Calls prog 84 #[.int .i64 op] W fun e w'=>e= .returned (.int .i64 (T.ar op))/\W=w':=by
 rcases aIk op with⟨rfl,h⟩ |⟨rfl,h⟩ |⟨h1,h2,h⟩ |⟨rfl,h⟩ |⟨h1,h2,h⟩ |⟨a,b,c,d,e,h⟩
 ·go_enter func84,ntmps84
  go_wp2;go_ret;exact⟨rfl,rfl⟩
 ·go_enter func84,ntmps84
  go_wp2;go_ret;exact⟨rfl,rfl⟩
 ·rw[h];clear h;have q0:(op == 0)=false:=by simp;omega
  have q1:(op == 33)=false:=by simp;omega
  have q2:decide (1<=op)=true:=by simp;omega
  have q3:decide (op<=14)=true:=by simp;omega
  go_enter func84,ntmps84
  go_wp2;go_ret;exact⟨rfl,rfl⟩
 ·go_enter func84,ntmps84
  go_wp2;go_ret;exact⟨rfl,rfl⟩
 ·rw[h];clear h;have hop:op=16\/op=17\/op=18:=by omega
  clear h1 h2;rcases hop with rfl | rfl | rfl
  all_goals
   go_enter func84,ntmps84
   go_wp2;go_ret;exact⟨rfl,rfl⟩
 ·rw[h];clear h;have q0:(op == 0)=false:=by simp;omega
  have q1:(op == 33)=false:=by simp;omega
  have q4:(op == 15)=false:=by simp;omega
  by_cases hn:op<1
  ·have q2:decide (1<=op)=false:=by simp;omega
   have q5:decide (16<=op)=false:=by simp;omega
   clear a b c d e hn
   go_enter func84,ntmps84
   go_wp2;go_ret;exact⟨rfl,rfl⟩
  ·have q2:decide (1<=op)=true:=by simp;omega
   have q3:decide (op<=14)=false:=by simp;omega
   have q5:decide (16<=op)=true:=by simp;omega
   have q6:decide (op<=18)=false:=by simp;omega
   clear a b c d e hn
   go_enter func84,ntmps84
   go_wp2;go_ret;exact⟨rfl,rfl⟩
theorem aQi(n:Int)(W:World):Calls prog 120 #[.int .i64 n] W fun e w'=>e= .returned (.bool (B.isWd n))/\W=w':=by
 by_cases h1:1<=n
 ·by_cases h2:n<=32
  ·rw[show B.isWd n=true from B.aBj.2 ⟨h1,h2⟩]
   go_enter func120,ntmps120
   go_wp2;go_ret;exact⟨rfl,rfl⟩
  ·rw[show B.isWd n=false from by cases h:B.isWd n;rfl;exact absurd (B.aBj.1 h).2 h2];have q:decide (n<=32)=false:=by simpa using h2
   clear h2
   go_enter func120,ntmps120
   go_wp2;go_ret;exact⟨rfl,rfl⟩
 ·rw[show B.isWd n=false from by cases h:B.isWd n;rfl;exact absurd (B.aBj.1 h).1 h1];have q:decide (1<=n)=false:=by simpa using h1
  clear h1
  go_enter func120,ntmps120
  go_wp2;go_ret;exact⟨rfl,rfl⟩
theorem aR1(z:Bool)(k:Nat)(x:T.Nd):
 (T.aAq z k x=false/\(T.ar x.op !=(x.args.length:Int))=true)\/
 (T.aAq z k x=false/\(T.ar x.op !=(x.args.length:Int))=false/\decide (T.ar x.op<0)=true)\/
 (T.aAq z k x=false/\(T.ar x.op !=(x.args.length:Int))=false/\decide (T.ar x.op<0)=false/\B.isWd x.w=false)\/
 (T.aAq z k x=false/\(T.ar x.op !=(x.args.length:Int))=false/\decide (T.ar x.op<0)=false/\B.isWd x.w=true/\z=true/\(x.fl != 0)=true)\/
 (T.aAq z k x=(T.aCh k x.args && (T.immOk x && (!decide (x.op=14) || decide (x.w=1))))/\(T.ar x.op !=(x.args.length:Int))=false/\decide (T.ar x.op<0)=false/\B.isWd x.w=true/\z=true/\(x.fl != 0)=false)\/
 (T.aAq z k x=(T.aCh k x.args && (T.immOk x && (!decide (x.op=14) || decide (x.w=1))))/\(T.ar x.op !=(x.args.length:Int))=false/\decide (T.ar x.op<0)=false/\B.isWd x.w=true/\z=false):=by
 have hw:(decide (1<=x.w) && decide (x.w<=32))=B.isWd x.w:=rfl;have hf:decide (x.fl=0)= !(x.fl != 0):=by by_cases h:x.fl=0 <;> simp[h]
 have hl:decide ((x.args.length:Int)=T.ar x.op)= !(T.ar x.op !=(x.args.length:Int)):=by
  by_cases h:T.ar x.op=(x.args.length:Int)
  ·simp[h]
  ·have h':¬(x.args.length:Int)=T.ar x.op:=fun e=>h e.symm
   simp[h,h']
 have hn:decide (0<=T.ar x.op)= !decide (T.ar x.op<0):=by by_cases h:T.ar x.op<0 <;> simp[h] <;> omega
 unfold T.aAq;rw[hf,hl,hn];have e:∀a b c d e f g i:Bool,(!a && b && c && (!z || d) && e && f && g && i)=(!a && (b && c) && (!z || d) && e && f && g && i):=by intros;simp[Bool.and_assoc]
 rw[e,hw];generalize decide (T.ar x.op<0)=a;generalize B.isWd x.w=b;generalize (x.fl != 0)=d;generalize (T.ar x.op !=(x.args.length:Int))=f;generalize T.immOk x=g;generalize T.aCh k x.args=i;generalize (!decide (x.op=14) || decide (x.w=1))=h;cases z <;> cases a <;> cases b <;> cases d <;> cases f <;> cases g <;> cases h <;> cases i <;> simp
theorem aLt{k j:Nat}{l:List Int}{a:Int}(h:T.aCh k (l.take j)=true)(ha:l[j]? =some a)(h1:0<=a)(h2:a<k):T.aCh k (l.take (j+1))=true:=by
 rw[K.aFl ha];unfold T.aCh at*;rw[List.all_append,h];simp[h1,h2]
theorem aNi{k j:Nat}{l:List Int}{a:Int}(ha:l[j]? =some a)(h:¬(0<=a/\a<k)):T.aCh k l=false:=by
 cases e:T.aCh k l
 ·rfl
 ·have:=zAD.1 e a (zAC ha);simp at this;exact absurd this h
theorem aQj(z:Bool)(t:List T.Nd)(k n ct:Nat)(At:Option Addr)(W:World)(hT:StAt 5 NdR W At n t)(hk:k<n)(x:T.Nd)(hx:t[k]? =some x):
 Calls prog 72 #[.slice At n ct, .int .i64 k, .bool z] W fun e w'=>e= .returned (.bool (T.aAq z k x))/\Below W.heap.size W w':=by
 obtain⟨x',b,off,A,c,hx',rfl,hb,h0,h1,h2,h3,h4,hs,i0,i1⟩:=aBf hT hk;rw[hx]at hx';cases hx';obtain⟨op,w,fl,args,imm⟩:=x
 dsimp only at h0 h1 h2 h3 h4 hs i0 i1
 have hle:=hT.le;have hle2:=hs.le;have Hc:=kH (aR1 z k ⟨op,w,fl,args,imm⟩);obtain⟨W1,hW1⟩:∃W1,W1=W.alloc (.cells #[.int .i64 op, .int .i64 w, .int .i64 fl, .slice A args.length c, .int .u32 imm] 56):=⟨_,rfl⟩;have HB1:=kH (show Below W.heap.size W W1 from by rw[hW1];exact al0);have hr1:W1.heap[W.heap.size]? =some (.cells #[.int .i64 op, .int .i64 w, .int .i64 fl, .slice A args.length c, .int .u32 imm] 56 (0,0)):=by rw[hW1];exact heap_alloc_new W _
 have HX:=kH (show∀Y:World,Below W1.heap.size W1 Y->Y.cell? ⟨W.heap.size,0,none⟩=some (.int .i64 op)/\Y.cell? ⟨W.heap.size,1,none⟩=some (.int .i64 w)/\Y.cell? ⟨W.heap.size,2,none⟩=some (.int .i64 fl)/\Y.cell? ⟨W.heap.size,3,none⟩=some (.slice A args.length c)/\Y.cell? ⟨W.heap.size,4,none⟩=some (.int .u32 imm)from fun Y hY=>by
  have h1:=aBt (kH hY) hr1;refine⟨?_,?_,?_,?_,?_⟩
  all_goals rw[cell_of_row _ _ _ _ _ (0,0) h1];rfl)
 obtain⟨x0,x1,x2,x3,x4⟩:=HX.out W1 (Below.refl _ _);have HA:=kH (fun nn=>show Calls prog 84 #[.int .i64 op] (W1.drewN nn) (fun e w''=>e= .returned (.int .i64 (T.ar op))/\∃m,w''=W1.drewN m)from Calls.quiet_of_same ((aWl op _).mono fun e w' ⟨h1,h2⟩=>⟨h1,h2.symm⟩));have HI:=kH (fun nn=>show Calls prog 120 #[.int .i64 w] (W1.drewN nn) (fun e w''=>e= .returned (.bool (B.isWd w))/\∃m,w''=W1.drewN m)from Calls.quiet_of_same ((aQi w _).mono fun e w' ⟨h1,h2⟩=>⟨h1,h2.symm⟩));obtain⟨sh,hsh⟩:∃sh,sh=T.aAq z k ⟨op,w,fl,args,imm⟩:=⟨_,rfl⟩;rw[<-hsh];have Hsh:=kH hsh
 dsimp only at Hc
 rw[<-hsh]at Hc;obtain⟨a,ha⟩:∃a,a=T.ar op:=⟨_,rfl⟩;rw[<-ha]at HA Hc;have hs1:=kH (hs.below (aAd _) HB1.out);have Hb:=kH hb;clear hsh ha hT hx hr1 hs hb;rcases Hc.out with⟨hr,c1⟩ |⟨hr,c1,c2⟩ |⟨hr,c1,c2,c3⟩ |⟨hr,c1,c2,c3,rfl,c4⟩ |⟨hr,c1,c2,c3,rfl,c4⟩ |⟨hr,c1,c2,c3,rfl⟩
 ·subst hr;clear Hc
  go_enter func72,ntmps72
  go_wp2;rw[<-hW1];clear hW1 h0 h1 h2 h3 h4
  go_quiet ((first |(go_at_call 84;with_reducible exact HA.out _) |(go_at_call 120;with_reducible exact HI.out _) | fail))
  go_wp2;go_ret;exact⟨rfl,HB1.out.dr ⟨_,rfl⟩⟩
 ·subst hr;clear Hc
  go_enter func72,ntmps72
  go_wp2;rw[<-hW1];clear hW1 h0 h1 h2 h3 h4
  go_quiet ((first |(go_at_call 84;with_reducible exact HA.out _) |(go_at_call 120;with_reducible exact HI.out _) | fail))
  go_wp2;go_ret;exact⟨rfl,HB1.out.dr ⟨_,rfl⟩⟩
 ·rw[c3]at HI;subst hr;clear Hc
  go_enter func72,ntmps72
  go_wp2;rw[<-hW1];clear hW1 h0 h1 h2 h3 h4
  go_quiet ((first |(go_at_call 84;with_reducible exact HA.out _) |(go_at_call 120;with_reducible exact HI.out _) | fail))
  go_wp2;go_ret;exact⟨rfl,HB1.out.dr ⟨_,rfl⟩⟩
 ·rw[c3]at HI;subst hr;clear Hc
  go_enter func72,ntmps72
  go_wp2;rw[<-hW1];clear hW1 h0 h1 h2 h3 h4
  go_quiet ((first |(go_at_call 84;with_reducible exact HA.out _) |(go_at_call 120;with_reducible exact HI.out _) | fail))
  go_wp2;go_ret;exact⟨rfl,HB1.out.dr ⟨_,rfl⟩⟩
 ·rw[c3]at HI;have Hr:=kH hr;clear hr Hc
  go_enter func72,ntmps72
  go_wp2;rw[<-hW1];clear hW1 h0 h1 h2 h3 h4
  go_quiet ((first |(go_at_call 84;with_reducible exact HA.out _) |(go_at_call 120;with_reducible exact HI.out _) | fail))
  clear HA HI c1 c2 c3 c4;generalize hW2:W1.drewN _=W2;have hd2:Dr W1 W2:=⟨_,hW2.symm⟩;obtain⟨y0,y1,y2,y3,y4⟩:=HX.out W2 (hd2.below _);have HA2:=kH (hs1.out.dr (aAd _) hd2);have Hb2:=kH (HB1.out.dr hd2);clear hd2 x0 x1 x2 x3 x4 hW2;go_wp2
  go_loop [8] (fun i=>∃j:Nat,j<=args.length/\i= .int .i64 j/\Hid (T.aCh k (args.take j)=true)) (fun i=>args.length- (intOf i).toNat)
  case atStart=>exact⟨0,zBL _,rfl,rfl⟩
  case round=>
   obtain⟨j,hj,rfl,HG⟩:=hrel
   by_cases hlt:j<args.length
   ·obtain⟨y,b9,off9,u9,hy,hA9,_,hc9,hu9⟩:=HA2.out.at_ hlt;have hu9':u9= .int .i64 y:=hu9;subst hu9' hA9;have Hy:=kH hy;clear hy hu9
    by_cases hg:0<=y/\y<k
    ·have Hg:=kH hg;have p0:decide (y<0)=false:=by simp;omega
     have p1:decide ((k:Int)<=y)=false:=by simp;omega
     clear hg;go_wp2
     go_round
     case rel=>exact⟨j+1,by omega,by go_num,aLt HG.out Hy.out Hg.out.1 Hg.out.2⟩
     case measure=>simp[intOf];omega
    ·have Hbad:=kH (show sh=false from by rw[Hr.out,aNi Hy.out hg,Bool.false_and])
     by_cases h0:y<0
     ·have p0:decide (y<0)=true:=by simp;omega
      clear hg;go_wp2;go_ret;exact⟨aA0 Hbad.out.symm,Hb2.out⟩
     ·have p0:decide (y<0)=false:=by simp;omega
      have p1:decide ((k:Int)<=y)=true:=by simp;omega
      clear hg;go_wp2;go_ret;exact⟨aA0 Hbad.out.symm,Hb2.out⟩
   ·obtain rfl:j=args.length:=by omega
    have hall:=HG.out;rw[List.take_length]at hall;have Hr2:=kH (show sh=(T.immOk ⟨op,w,fl,args,imm⟩ && (!decide (op=14) || decide (w=1)))from by rw[Hr.out,hall,Bool.true_and]);clear hall
    by_cases o0:op=0
    ·have HIw:=kH (fun W'=>aCq w imm W' i0 i1);have Hf:=kH (show sh=B.isW w imm from by rw[Hr2.out,o0];simp[T.immOk]);subst o0
     go_wp2_with fail
     refine(HIw.out _).mono ?_;rintro e w3 ⟨rfl,rfl⟩;go_wp2;go_ret;exact⟨aA0 Hf.out.symm,Hb2.out⟩
    ·have p0:(op == 0)=false:=by simpa using o0
     by_cases o1:op=33
     ·have Hf:=kH (show sh=decide (imm<4)from by rw[Hr2.out,o1];simp[T.immOk]);subst o1;go_wp2;go_ret;exact⟨aA0 Hf.out.symm,Hb2.out⟩
     ·have p1:(op == 33)=false:=by simpa using o1
      by_cases o2:op=14
      ·have Hf:=kH (show sh=(decide (imm<=9) && decide (w=1))from by rw[Hr2.out,o2];simp[T.immOk]);subst o2
       by_cases w1:w=1
       ·have p2:(w == 1)=true:=by simpa using w1
        have Hf2:=kH (show sh=decide (imm<=9)from by rw[Hf.out,zBO w1,Bool.and_true]);clear w1;go_wp2;go_ret;exact⟨aA0 Hf2.out.symm,Hb2.out⟩
       ·have p2:(w == 1)=false:=by simpa using w1
        have Hf2:=kH (show sh=false from by rw[Hf.out,zBP w1,Bool.and_false]);clear w1;go_wp2;go_ret;exact⟨aA0 Hf2.out.symm,Hb2.out⟩
      ·have p2:(op == 14)=false:=by simpa using o2
       have Hf:=kH (show sh=(imm == 0)from by
        rw[Hr2.out];unfold T.immOk
        dsimp only
        rw[if_neg o0,if_neg o1,if_neg o2,zBP o2]
        by_cases h:imm=0 <;> simp[h])
       clear o0 o1 o2;go_wp2;go_ret;exact⟨aA0 Hf.out.symm,Hb2.out⟩
 ·rw[c3]at HI;have Hr:=kH hr;clear hr Hc
  go_enter func72,ntmps72
  go_wp2;rw[<-hW1];clear hW1 h0 h1 h2 h3 h4
  go_quiet ((first |(go_at_call 84;with_reducible exact HA.out _) |(go_at_call 120;with_reducible exact HI.out _) | fail))
  clear HA HI c1 c2 c3;generalize hW2:W1.drewN _=W2;have hd2:Dr W1 W2:=⟨_,hW2.symm⟩;obtain⟨y0,y1,y2,y3,y4⟩:=HX.out W2 (hd2.below _);have HA2:=kH (hs1.out.dr (aAd _) hd2);have Hb2:=kH (HB1.out.dr hd2);clear hd2 x0 x1 x2 x3 x4 hW2;go_wp2
  go_loop [8] (fun i=>∃j:Nat,j<=args.length/\i= .int .i64 j/\Hid (T.aCh k (args.take j)=true)) (fun i=>args.length- (intOf i).toNat)
  case atStart=>exact⟨0,zBL _,rfl,rfl⟩
  case round=>
   obtain⟨j,hj,rfl,HG⟩:=hrel
   by_cases hlt:j<args.length
   ·obtain⟨y,b9,off9,u9,hy,hA9,_,hc9,hu9⟩:=HA2.out.at_ hlt;have hu9':u9= .int .i64 y:=hu9;subst hu9' hA9;have Hy:=kH hy;clear hy hu9
    by_cases hg:0<=y/\y<k
    ·have Hg:=kH hg;have p0:decide (y<0)=false:=by simp;omega
     have p1:decide ((k:Int)<=y)=false:=by simp;omega
     clear hg;go_wp2
     go_round
     case rel=>exact⟨j+1,by omega,by go_num,aLt HG.out Hy.out Hg.out.1 Hg.out.2⟩
     case measure=>simp[intOf];omega
    ·have Hbad:=kH (show sh=false from by rw[Hr.out,aNi Hy.out hg,Bool.false_and])
     by_cases h0:y<0
     ·have p0:decide (y<0)=true:=by simp;omega
      clear hg;go_wp2;go_ret;exact⟨aA0 Hbad.out.symm,Hb2.out⟩
     ·have p0:decide (y<0)=false:=by simp;omega
      have p1:decide ((k:Int)<=y)=true:=by simp;omega
      clear hg;go_wp2;go_ret;exact⟨aA0 Hbad.out.symm,Hb2.out⟩
   ·obtain rfl:j=args.length:=by omega
    have hall:=HG.out;rw[List.take_length]at hall;have Hr2:=kH (show sh=(T.immOk ⟨op,w,fl,args,imm⟩ && (!decide (op=14) || decide (w=1)))from by rw[Hr.out,hall,Bool.true_and]);clear hall
    by_cases o0:op=0
    ·have HIw:=kH (fun W'=>aCq w imm W' i0 i1);have Hf:=kH (show sh=B.isW w imm from by rw[Hr2.out,o0];simp[T.immOk]);subst o0
     go_wp2_with fail
     refine(HIw.out _).mono ?_;rintro e w3 ⟨rfl,rfl⟩;go_wp2;go_ret;exact⟨aA0 Hf.out.symm,Hb2.out⟩
    ·have p0:(op == 0)=false:=by simpa using o0
     by_cases o1:op=33
     ·have Hf:=kH (show sh=decide (imm<4)from by rw[Hr2.out,o1];simp[T.immOk]);subst o1;go_wp2;go_ret;exact⟨aA0 Hf.out.symm,Hb2.out⟩
     ·have p1:(op == 33)=false:=by simpa using o1
      by_cases o2:op=14
      ·have Hf:=kH (show sh=(decide (imm<=9) && decide (w=1))from by rw[Hr2.out,o2];simp[T.immOk]);subst o2
       by_cases w1:w=1
       ·have p2:(w == 1)=true:=by simpa using w1
        have Hf2:=kH (show sh=decide (imm<=9)from by rw[Hf.out,zBO w1,Bool.and_true]);clear w1;go_wp2;go_ret;exact⟨aA0 Hf2.out.symm,Hb2.out⟩
       ·have p2:(w == 1)=false:=by simpa using w1
        have Hf2:=kH (show sh=false from by rw[Hf.out,zBP w1,Bool.and_false]);clear w1;go_wp2;go_ret;exact⟨aA0 Hf2.out.symm,Hb2.out⟩
      ·have p2:(op == 14)=false:=by simpa using o2
       have Hf:=kH (show sh=(imm == 0)from by
        rw[Hr2.out];unfold T.immOk
        dsimp only
        rw[if_neg o0,if_neg o1,if_neg o2,zBP o2]
        by_cases h:imm=0 <;> simp[h])
       clear o0 o1 o2;go_wp2;go_ret;exact⟨aA0 Hf.out.symm,Hb2.out⟩
end
end Go.Proofs.YtchdbhggbdcapaaGreat
