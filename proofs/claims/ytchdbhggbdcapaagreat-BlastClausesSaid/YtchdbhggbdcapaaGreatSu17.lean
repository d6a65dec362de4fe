/- Part. -/
import Derived.Test.YtchdbhggbdcapaaGreatSuLX
import Derived.Test.YtchdbhggbdcapaaGreatSu16
set_option linter.unusedVariables false
set_option linter.unusedSimpArgs false
set_option maxRecDepth 100000
set_option maxHeartbeats 16000000
namespace Go.Proofs.YtchdbhggbdcapaaGreat
open _root_.Go.Proofs.Tryz
section
open Go.RowKit Go.MapKept Go.Maps Go.WideMaps
def DPost(w:World)(B0 Bb Mb:Nat)(tg:TgF)(n:Nat)(d:C.DS)(e:Ending)(w':World):Prop:=
 ∃A c A2 c2 tg',e= .returned (.tuple #[.slice A n c, .slice A2 n c2])/\WSt w B0 Bb Mb tg (d.q,d.b) (.slice A n c) w' tg'/\WdNew w w' tg' (.slice A2 n c2) d.r
structure DvSt(w:World)(B0 Bb Mb:Nat)(tg:TgF)(n g o cq:Nat)(y:List Int)(d:C.DS)(Ar:Option Addr)(cr:Nat)(Ad:Option Addr)(cd:Nat)(w':World)(tg':TgF):Prop where
 st:WSt w B0 Bb Mb tg (d.q,d.b) (.slice (some ⟨g,o,none⟩) n cq) w' tg'
 r:WdOff w' tg' g Ar cr d.r
 rn:∀b,(Value.slice Ar d.r.length cr).ownBlock=some b->w.heap.size<=b
 dv:WdOff w' tg' g Ad cd (y ++ [-1])
section
variable {w w' : World} {B0 Bb Mb : Nat} {tg tg' : TgF} {vc : Value} {b : C.Bd}
theorem aGc(h:BAt w B0 Bb Mb tg vc b){A1 A2:Option Addr}{c1 c2:Nat}{x y:List Int}(hx:WdAt w tg A1 c1 x)(hy:WdAt w tg A2 c2 y)(hxb:C.Wb x)(hyb:C.Wb y)(hl:x.length=y.length)(h1:1<=x.length)(hm:x.length<=90000):
 Calls prog 155 #[.pointer (some ⟨Bb,0,none⟩), .slice A1 x.length c1, .slice A2 y.length c2] w (DPost w B0 Bb Mb tg x.length (C.aA8 x y b)):=by
 have hB:=h.lt Bb _ h.st.2;obtain⟨n,hxl⟩:∃n,x.length=n:=⟨_,rfl⟩;have Hbo:=kH (aMn hxb hyb hl h.bo);have Hw:=kH (And.intro hx hy);have Hwb:=kH (And.intro hxb hyb);have H:=kH h;have He:=kH (show C.aA8 x y b=C.divTo x y b n from by unfold C.aA8;rw[hxl]);have Hl:=kH (And.intro hxl hl);have HF:=kH (fun W:World=>aD8 (w:=W) (x:= -1) (n:=n) (by omega) (by omega));have Hrl:=kH (aDg n (-1));rw[<-hl,hxl];rw[hxl]at hm h1;have HF0:=kH (HF.out w);clear h hx hy hxb hyb hl hxl
 go_enter func155,ntmps155
 go_wp2_with fail
 refine HF0.out.mono ?_;rintro e w1 ⟨A3,c3,rfl,k1,k2,k3⟩;rw[Hrl.out]at k2 k3⊢;obtain⟨g,o,cq,q1,_⟩:=aAg k2 (aBx (l:=C.rep n (-1)) (i:=0) (by rw[Hrl.out];omega));injection q1 with q1 _ q2
 subst q1 q2;have B1:=kH (H.out.below k1);have U1:=kH (H.out.up k1);have hg0:=k3 g rfl;have hg1:g<w1.heap.size:=k2.lt g rfl;have Q1:=kH (And.intro k2 (And.intro hg0 hg1));have HF1:=kH (HF.out w1);clear k1 k2 k3 HF0 hg0 hg1
 go_wp2_with fail
 refine HF1.out.mono ?_;rintro e w2 ⟨A4,c4,rfl,k1,k2,k3⟩;rw[Hrl.out]at k2 k3⊢;have B2:=kH (B1.out.below k1);have U2:=kH (U1.out.trans (B1.out.up k1));have R2:=kH (And.intro k2 k3);have Q2:=kH (show OwnAt w2 3 1 (.slice (some ⟨g,o,none⟩) n c3) n (siv (C.rep n (-1)))from Q1.out.1.below k1 Q1.out.1.lt);have S2:=kH k1.size;have HC:=kH (aDl (Hw.out.2.up U2.out) (by have:=Hl.out;omega));rw[<-Hl.out.2,Hl.out.1]at HC;clear k1 k2 k3 HF1 HF
 go_wp2_with fail
 refine HC.out.mono ?_;rintro e w3 ⟨A5,c5,rfl,k1,k2,k3⟩;have hyl:y.length=n:=by rw[<-Hl.out.2];exact Hl.out.1
 rw[hyl]at k2 k3⊢;have N3:=kH (show NSt w2 y (.slice A5 n c5) w3 from⟨k1,by rw[hyl];exact k2,k3⟩);have Hyl:=kH hyl;have Hown:=kH k2;clear k1 k2 k3 HC hyl
 go_upto_region 5 with(first | fail |(at_builtin;go_loud (refine aAk _ rfl (.tmp 23) (.tmp 24) 69 rfl 3 (.int .i64 0) 8 underlying69 Tryz.sinfoInt rfl _ n (siv y) rfl Hown.out (.int .i64 (-1)) rfl _ rfl (by omega) (by omega) ?_;intro v4 w4 hown' hgr hat;obtain⟨Av,cv,hv⟩:=hown'.form;subst hv;have Hq:=kH (N3.out.app (a:= -1) (by rw[Hyl.out];exact hown') hgr hat);clear hown' hgr hat)))
 have Hst:=kH (show DvSt w B0 Bb Mb tg n g o c3 y (C.divTo x y b 0) A4 c4 Av cv w4 tg from by
  have b34:=Hq.out.bl;have hs2:=U2.out.un.size;have hrep:C.divTo x y b 0=⟨C.rep n (-1),C.rep n (-1),b⟩:=by rw[C.divTo,Hl.out.1]
  rw[hrep];have hr4:OwnAt w4 3 1 (.slice A4 n c4) n (siv (C.rep n (-1))):=R2.out.1.below b34 R2.out.1.lt;refine⟨⟨⟨vc,B2.out.below b34⟩,U2.out.trans (B2.out.up b34),⟨?_,fun x hx=>?_⟩⟩,⟨⟨?_,fun x hx=>?_⟩,fun e=>?_⟩,fun x hx=>?_,⟨⟨?_,fun x hx=>?_⟩,fun e=>?_⟩⟩
  ·show OwnAt w4 _ 1 _ (C.rep n (-1)).length _
   rw[Hrl.out];exact Q2.out.below b34 Q2.out.lt
  ·have e:g=x:=by simpa[Value.ownBlock]using hx
   subst e;exact⟨Q1.out.2.1,H.out.none_ Q1.out.2.1⟩
  ·show OwnAt w4 _ 1 (.slice A4 (C.rep n (-1)).length c4) (C.rep n (-1)).length _
   rw[Hrl.out];exact hr4
  ·rw[show(C.DS.mk (C.rep n (-1)) (C.rep n (-1)) b).r.length=n from Hrl.out]at hx;have:=R2.out.2 x hx;exact H.out.none_ (by have:=U1.out.un.size;omega)
  ·rw[show(C.DS.mk (C.rep n (-1)) (C.rep n (-1)) b).r.length=n from Hrl.out]at e;have:=R2.out.2 g e;have:=Q1.out.2.2;omega
  ·rw[show(C.DS.mk (C.rep n (-1)) (C.rep n (-1)) b).r.length=n from Hrl.out]at hx;have:=R2.out.2 x hx;have:=U1.out.un.size;omega
  ·have:=Hq.out.own;have el:(y ++ [-1]).length=n+1:=by simp[Hyl.out]
   rw[el]at this⊢;exact this
  ·have el:(y ++ [-1]).length=n+1:=by simp[Hyl.out]
   rw[el]at hx;have:=Hq.out.new x hx;exact H.out.none_ (by omega)
  ·have el:(y ++ [-1]).length=n+1:=by simp[Hyl.out]
   rw[el]at e;have:=Hq.out.new g e;have:=Q1.out.2.2;have:=S2.out;omega)
 clear Hq Hown N3 Q2 R2 B2 U2 B1 U1 Q1 S2;go_wp2
 go_loopw [10,12] (fun rv i wr=>∃j:Nat,j<=n/\i= .int .i64 ((n:Int)-1- (j:Int))/\∃Ar cr tg',rv= .slice Ar n cr/\Hid (DvSt w B0 Bb Mb tg n g o c3 y (C.divTo x y b j) Ar cr Av cv wr tg')) (fun _ i _=>(intOf i+1).toNat)
 case atStart=>exact⟨0,zBL _,by simp,A4,c4,tg,rfl,Hst⟩
 case round=>
  obtain⟨j,hj,rfl,Ar,cr,tgj,rfl,HS⟩:=hrel
  by_cases hlt:j<n
  ·obtain⟨wo,hwo⟩:∃wo,wo=wr:=⟨_,rfl⟩;subst hwo;obtain⟨i0,hi0⟩:∃i0,n-1-j=i0:=⟨_,rfl⟩;have hji:(n:Int)-1- (j:Int)=((i0:Nat):Int):=by omega
   have hin:i0<n:=by omega
   have hix:i0<x.length:=by rw[Hl.out.1];exact hin
   have hd5:=Hbo.out j (by rw[Hl.out.1];omega);have hst:C.divTo x y b (j+1)=C.aFb x y i0 (C.divTo x y b j):=by rw[C.divTo,Hl.out.1,hi0]
   obtain⟨d,hd⟩:∃d,C.divTo x y b j=d:=⟨_,rfl⟩;rw[hd]at hst hd5 HS;obtain⟨g1,o1,rfl,e1⟩:=(Hw.out.1.up HS.out.st.up).cell hix;obtain⟨xi,hxi⟩:∃v,x.getD i0 0=v:=⟨_,rfl⟩;rw[hxi]at e1;have ix:C.Ib xi:=by rw[<-hxi];exact wb_at Hwb.out.1 hix
   have hrl:d.r.length=n:=by rw[hd5.rl,Hl.out.1]
   have hr0:OwnAt wo 3 1 (.slice Ar n cr) n (siv d.r):=by have h0:=HS.out.r.1.1;rw[hrl]at h0;exact h0
   have hnew:OwnAt (wo.alloc (.cells #[.int .i64 xi] 3)) 3 1 (.slice (some ⟨wo.heap.size,0,none⟩) 1 1) 1 [.int .i64 xi]:=OwnAt.of_new wo #[.int .i64 xi] 1 (by simp) (by decide);have hnews:∀k u,(siv d.r)[k]? =some u->∃ad:Addr,Ar=some ad/\(wo.alloc (.cells #[.int .i64 xi] 3)).cell? (ad.add k)=some u:=fun k u hk=>by
    obtain⟨g9,o9,c9,q1,q2,_⟩:=aAg (hr0.alloc (.cells #[.int .i64 xi] 3)) hk;injection q1 with q1 _ _
    exact⟨_,q1,by rw[show(⟨g9,o9,none⟩:Addr).add k=⟨g9,o9+k,none⟩from by simp[Addr.add]];exact q2⟩
   have Hnew:=kH (And.intro hnew (And.intro hnews hrl));have Hst:=kH (And.intro hst (And.intro hd5 (And.intro hxi ix)));have Hji:=kH (And.intro hji hi0);have hdc:decide ((0:Int)<=((i0:Nat):Int))=true:=by simp
   rw[hji];clear hst hd5 hd hxi ix hr0 hnew hnews hrl hix hji hi0
   go_upto_region 9 with(at_builtin;go_loud (refine aBv _ rfl (.tmp 36) (.tmp 37) 69 rfl 3 (.int .i64 0) 1 8 underlying69 Tryz.sinfoInt rfl (by decide) (.slice (some ⟨wo.heap.size,0,none⟩) 1 1) 1 [.int .i64 xi] rfl Hnew.out.1 Ar n cr (siv d.r) rfl (by rw[aBu,Hnew.out.2.2];omega) Hnew.out.2.1 (fun u hu=>by obtain⟨z,_,rfl⟩:=zBU.1 hu;rfl) (by omega) (by decide) ?_;intro v5 w5 hown hgr hat;obtain⟨A5,c5',hv⟩:=hown.form;subst hv;have Hq:=kH (And.intro hown (And.intro hgr hat));clear hown hgr hat))
   have hbl:Below wo.heap.size wo w5:=(al0).grown Hq.out.2.1 (by simp) (fun z hz=>by
    have e:wo.heap.size=z:=by simpa[Value.ownBlock]using hz
    omega)
   have hnx:OwnAt w5 3 1 (.slice A5 (1+n) c5') (1+n) (siv (xi :: d.r)):=Hq.out.1;have hnn:∀z,(Value.slice A5 (1+n) c5').ownBlock=some z->wo.heap.size<=z:=fun z hz=>by
    rcases Hq.out.2.2 with e | e
    ·rw[e]at hz;have e:wo.heap.size=z:=by simpa[Value.ownBlock]using hz
     omega
    ·rw[e]at hz;have:=zAH hz;simp at this;omega
   have Hnx:=kH (And.intro hbl (And.intro hnx hnn));clear hbl hnx hnn Hq Hnew e1;have hly:(y ++ [-1]).length=n+1:=by simp[Hyl.out]
   have hlx:(xi :: d.r).length=n+1:=by simp[Hst.out.2.1.rl,Hl.out.1]
   have hln:(C.notw (y ++ [-1])).length=n+1:=by rw[C.aBy,hly]
   have hdv5:=HS.out.dv.1.1.below Hnx.out.1 HS.out.dv.1.1.lt;have HN:=kH (aI2 hdv5 (aEx Hwb.out.2 (aGm C.ibm1)) (by rw[hly];omega));rw[hly]at HN;rw[Nat.add_comm 1 n];have Hlen:=kH (And.intro hly (And.intro hlx hln));clear hly hlx hln hdv5
   go_wp2_with fail
   refine HN.out.mono ?_;rintro e w6 ⟨A6,c6,rfl,k1,k2,k3⟩;obtain⟨vj,hbj⟩:=HS.out.st.bu;have hb6:=Hnx.out.1.trans (k1.mono Hnx.out.1.size);have hB6:=hbj.below hb6;have hU6:=hbj.up hb6;have hx6:WdAt w6 tgj A5 c5' (xi :: d.r):=by
    have h0:=Hnx.out.2.1.below k1 Hnx.out.2.1.lt;rw[Nat.add_comm 1 n]at h0;refine⟨by rw[Hlen.out.2.1];exact h0,fun z hz=>hbj.none_ (Hnx.out.2.2 z (by rw[Hlen.out.2.1,Nat.add_comm n 1]at hz;exact hz))⟩
   have hn6:WdAt w6 tgj A6 c6 (C.notw (y ++ [-1])):=⟨k2,fun z hz=>hbj.none_ (zBK Hnx.out.1.size (k3 z hz))⟩;have hwx:C.Wb (xi :: d.r):=aEx (l:= [xi]) (aGm Hst.out.2.2.2) Hst.out.2.1.r;have HP:=kH (aF5 hB6 C.ib1 hx6 hn6 hwx (aEw (aEx Hwb.out.2 (aGm C.ibm1))) (by rw[Hlen.out.2.1,Hlen.out.2.2]) (by rw[Hlen.out.2.1];omega));have hsb:=aC8 C.ib1 hwx (aEw (aEx Hwb.out.2 (aGm C.ibm1))) Hst.out.2.1.b (by rw[Hlen.out.2.1,Hlen.out.2.2];exact zBJ _) (xi :: d.r).length (zBJ _);have hsl:(C.sum (xi :: d.r) (C.notw (y ++ [-1])) 1 d.b).1.1.length=n+1:=by unfold C.sum;rw[C.aCg,Hlen.out.2.1]
   rw[show C.sumTo (xi :: d.r) (C.notw (y ++ [-1])) 1 d.b (xi :: d.r).length=C.sum (xi :: d.r) (C.notw (y ++ [-1])) 1 d.b from rfl]at hsb;have hst:=Hst.out.1;unfold C.aFb at hst;simp only[Hst.out.2.2.1,Hl.out.1]at hst;rw[show((d.q,d.b):List Int×C.Bd).2=d.b from rfl]at HP;obtain⟨s,hs⟩:∃s,C.sum (xi :: d.r) (C.notw (y ++ [-1])) 1 d.b=s:=⟨_,rfl⟩;rw[hs]at HP hsb hsl hst;rw[Hlen.out.2.1,Hlen.out.2.2]at HP;rw[Hlen.out.2.2];have Hs:=kH (And.intro hsb (And.intro hsl (And.intro hst hwx)));have H6:=kH (And.intro hU6 hx6);clear k1 k2 k3 hbj hb6 hB6 hU6 hx6 hn6 hwx hsb hsl hst hs HN
   go_wp2_with fail
   refine HP.out.mono ?_;rintro e w7 ⟨A7,c7,tg7,rfl,k⟩;obtain⟨v7,hb7⟩:=k.bu;have hu7:=H6.out.1.trans k.up;have hst7:=HS.out.st.step (b2:=s.2) hb7 hu7;have H7:=kH (And.intro hst7 (And.intro k.wd (And.intro (H6.out.2.up k.up) (And.intro (HS.out.dv.up hu7) (fun z (hz:(Value.slice A7 s.1.1.length c7).ownBlock=some z)=>(k.nw.2 z hz).1)))));have Hz:=kH (And.intro hu7.un.size k.up.un.size);have hq7:OwnAt w7 3 1 (.slice (some ⟨g,o,none⟩) n c3) n (siv d.q):=by
    have h0:=hst7.nw.1;rw[show((d.q,s.2):List Int×C.Bd).1.length=n from by rw[<-Hl.out.1];exact Hst.out.2.1.ql]at h0;exact h0
   obtain⟨g9,o9,c9,q1,q2,q3,_⟩:=aAg hq7 (aBx (l:=d.q) (i:=i0) (by rw[Hst.out.2.1.ql,Hl.out.1];exact hin));injection q1 with q1 _ q6
   subst q6;injection q1 with q1
   injection q1 with q4 q5
   subst q4 q5;have f7:=q3 (o+i0);rw[Hs.out.2.1];clear k hb7 hu7 hst7 hq7 q3 HP
   go_upto_region 11 with(fail)
   have hput:=H7.out.1.put (by have:=Hz.out;omega) (by rw[<-Hl.out.1];exact Hst.out.2.1.ql) hin s.1.2;have hdif:=(show WdOff w7 tg7 g A7 c7 s.1.1 from⟨H7.out.2.1,fun e=>by
    have q:=H7.out.2.2.2.2 g e;have:=(H7.out.1.nw.1).lt g rfl;have hgw:=HS.out.st.nw.1.lt g rfl;have:=H6.out.1.un.size;omega⟩).put (i:=o+i0) (.int .i64 s.1.2)
   have hnxt:=(show WdOff w7 tg7 g A5 c5' (xi :: d.r)from⟨H7.out.2.2.1,fun e=>by
    have q:=Hnx.out.2.2 g (by rw[Nat.add_comm 1 n,<-Hlen.out.2.1];exact e);have hgw:=HS.out.st.nw.1.lt g rfl;omega⟩).put (i:=o+i0) (.int .i64 s.1.2)
   have hdvp:=H7.out.2.2.2.1.put (i:=o+i0) (.int .i64 s.1.2);obtain⟨w8,hw8⟩:∃w8,w8=w7.setCell ⟨g,o+i0,none⟩ (.int .i64 s.1.2):=⟨_,rfl⟩;rw[<-hw8]at hput hdif hnxt hdvp⊢;have hs8:w8.heap.size=w7.heap.size:=by rw[hw8];simp
   clear hw8 q2 f7;obtain⟨g7,o7,c7',q1,_,_,hc7,_⟩:=aAg hdif.1.1 (aBx (l:=s.1.1) (i:=0) (by rw[Hs.out.2.1];omega));rw[Hs.out.2.1]at q1;injection q1 with q1 _ q6
   subst q1 q6;obtain⟨g5,o5,c5x,q1,_,_,hc5,_⟩:=aAg hnxt.1.1 (aBx (l:=xi :: d.r) (i:=0) (by rw[Hlen.out.2.1];omega));rw[Hlen.out.2.1]at q1;injection q1 with q1 _ q6
   subst q1 q6;rw[Hs.out.2.1]at hc7;rw[Hlen.out.2.1]at hc5;have hn7:n<=c7:=by omega
   have hn5:n<=c5':=by omega
   obtain⟨v8,hb8⟩:=hput.drew.bu;have hud:Up B0 tg7 w8 tg7 w8.drew:=by
    obtain⟨v9,hb9⟩:=hput.bu;exact hb9.up ((Below.refl _ _).drew)
   have l1:(s.1.1.take n).length=n:=by rw[zAZ,Hs.out.2.1];omega
   have l2:((xi :: d.r).take n).length=n:=by rw[zAZ,Hlen.out.2.1];omega
   have HP:=kH (aEm hb8 Hs.out.1.2.2 ((hdif.1.up hud).low (m:=n) (by rw[Hs.out.2.1];omega)) ((hnxt.1.up hud).low (m:=n) (by rw[Hlen.out.2.1];omega)) (aG9 Hs.out.1.2.1 n) (aG9 Hs.out.2.2.2 n) (by rw[l1,l2]) (by rw[l1];omega));rw[l1,l2]at HP;rw[show(((d.q.set i0 s.1.2,s.2):List Int×C.Bd).2)=s.2 from rfl]at HP;have hpl:(C.picks s.1.2 (s.1.1.take n) ((xi :: d.r).take n) s.2).1.length=n:=by unfold C.picks;rw[C.aCa,l1]
   have hst:=Hs.out.2.2.1;obtain⟨p,hp⟩:∃p,C.picks s.1.2 (s.1.1.take n) ((xi :: d.r).take n) s.2=p:=⟨_,rfl⟩;rw[hp]at HP hpl hst;have Hf:=kH (And.intro hst (And.intro hpl (And.intro hput.drew (And.intro (hdvp.up hud) hs8))));have Hgs:=kH (show g<w8.heap.size from hput.nw.1.lt g rfl);have Hcp:=kH (show∀(args:Array Value) (X:World),Sem.run prog (callFunc 118 args) X= .ok (.enter 118 args) X from fun args X=>by simp[go_sem,callFunc,Tryz.f118]);clear hput hdif hnxt hdvp hs8 hc7 hc5 hb8 hud l1 l2 hpl hst hp
   go_region_law (first
    | (refine aI1 rfl 118 Hcp.out (.tmp 51) (.tmp 52) (.tmp 55) (.tmp 58) _ _ _ _ rfl (.pointer (some ⟨Bb, 0, none⟩)) (.int .i64 s.1.2) (.slice (some ⟨g7, o7, none⟩) n c7) (.slice (some ⟨g5, o5, none⟩) n c5') (by go_simp) (by go_simp) (by go_simp) (by go_simp) HP.out ?_
       rintro e w9 ⟨A9,c9,tg9,rfl,k⟩;refine⟨_,rfl,?_⟩;have Hk:=kH k;clear k))
   all_goals
    rw[Hf.out.2.1];go_wp2;go_roundw
    case rel=>
     refine⟨j+1,by omega,congrArg (Value.int .i64) (by have:=Hji.out;omega),A9,c9,tg9,rfl,kH ?_⟩;obtain⟨v9,hb9⟩:=Hk.out.bu;rw[Hf.out.1];refine⟨Hf.out.2.2.1.step hb9 Hk.out.up,⟨Hk.out.wd,fun e=>?_⟩,fun z hz=>?_,Hf.out.2.2.2.1.up Hk.out.up⟩
     ·have:=(Hk.out.nw.2 g e).1;have h2:=Hgs.out;exact absurd this (by simp;exact h2)
     ·have:=(Hk.out.nw.2 z hz).1;have h2:w.heap.size<=w8.drew.heap.size:=Hf.out.2.2.1.up.un.size;omega
    case measure=>have:=Hji.out;simp[intOf] <;> omega
  ·have hjn:j=n:=by omega
   subst hjn;have hd:decide ((0:Int)<=(j:Int)-1- (j:Int))=false:=by simp;omega
   go_wp2;refine bodyPost_ret (results_tmp2 rfl _ _ _) rfl ?_;rw[He.out];have hd5:=Hbo.out j (zAM Hl.out.1.symm);have hrl:(C.divTo x y b j).r.length=j:=by rw[hd5.rl,Hl.out.1]
   refine⟨some ⟨g,o,none⟩,c3,Ar,cr,tgj,rfl,HS.out.st,?_,fun x hx=>?_⟩
   ·have h0:=HS.out.r.1.1;rw[hrl]at h0⊢;exact h0
   ·have h0:=HS.out.r.1.2 x (by rw[hrl];exact hx);exact⟨HS.out.rn x (by rw[hrl];exact hx),h0⟩
end
end
section
theorem aSn{n k:Nat}{a:Int}{out:List Int}(ha:C.Ib a)(ho:C.Wb out):C.Wb (C.moved n k a out):=by
 unfold C.moved;split
 ·exact aEx (fun l hl=>by rw[(List.mem_replicate.1 hl).2];exact ha) (aG9 ho _)
 ·exact fun l hl=>by rw[(List.mem_replicate.1 hl).2];exact ha
theorem aEo{x y:List Int}{a:Int}(hx:C.Wb x)(hy:C.Wb y)(ha:C.Ib a){b:C.Bd}(hb:C.Bo b):∀k,k<=y.length->C.Bo (C.aA4 x y a b k).2/\C.Wb (C.aA4 x y a b k).1/\(C.aA4 x y a b k).1.length=x.length
 | 0,_=>⟨hb,hx,rfl⟩
 | k+1,hk=>by
  obtain⟨h1,h2,h3⟩:=aEo hx hy ha hb k (by omega);have hm:=aSn (n:=x.length) (k:=k) ha h2;have hl:(C.moved x.length k a (C.aA4 x y a b k).1).length=x.length:=C.aKa h3;obtain⟨p1,p2⟩:=aFw (wb_at hy (i:=k) (by omega)) hm h2 h1 (by rw[hl,h3];exact zBJ _) x.length (zAM hl.symm);refine⟨?_,?_,?_⟩
  ·show C.Bo (C.picks _ _ _ _).2
   unfold C.picks;rw[hl];exact p1
  ·show C.Wb (C.picks _ _ _ _).1
   unfold C.picks;rw[hl];exact p2
  ·show(C.picks _ _ _ _).1.length=_
   unfold C.picks;rw[C.aCa,hl]
end
section
open Go.RowKit Go.MapKept Go.Maps Go.WideMaps
theorem aXb{w:World}{e:TypeId}{g off n c:Nat}{xs:List Value}(h:OwnAt w e 1 (.slice (some ⟨g,off,none⟩) n c) n xs)(p:Nat)(cs:List Value)(hp:p+cs.length<=n):
 ∃cur:List Value,w.heap[g]? =some (.cells cur.toArray e (0,0))/\off+p+cs.length<=cur.length/\
  ∀w':World,w'.heap[g]? =some (.cells (Go.splice cur (off+p) cs).toArray e (0,0))->OwnAt w' e 1 (.slice (some ⟨g,off,none⟩) n c) n (xs.take p ++ cs ++ xs.drop (p+cs.length)):=by
 obtain⟨h1,h2⟩:=h;rcases h2 with⟨h2,h3⟩ |⟨g',off',cap,cur,e1,hc,i1,i2,i3,i4⟩
 ·cases h2
 ·cases e1;have hsz:cur.toList.length=cur.size:=by simp
  have hcl:off+p+cs.length<=cur.toList.length:=by rw[hsz];omega
  refine⟨cur.toList,by simpa using hc,hcl,fun w' hw=>⟨by simp;omega, .inr ⟨g,off,c,_,rfl,hw,i1,i2,?_,fun j u hu=>?_⟩⟩⟩
  ·simp only[List.size_toArray];rw[Go.length_splice _ _ _ hcl,hsz];exact i3
  ·simp only[zAV];unfold Go.splice;have hx:xs.length=n:=by omega
   rw[zBT,List.getElem?_append]at hu;rw[List.getElem?_append];have ht1:(xs.take p).length=p:=by rw[zAZ];omega
   have ht2:(cur.toList.take (off+p)).length=off+p:=by rw[zAZ];omega
   rw[ht1]at hu;rw[ht2]
   by_cases hj:j<p
   ·rw[if_pos hj,zBB,if_pos hj]at hu;rw[if_pos (by omega),zBB,if_pos (by omega)];have:=i4 j u hu;simpa using this
   ·rw[if_neg hj]at hu;rw[if_neg (by omega),show off+j- (off+p)=j-p by omega];rw[List.getElem?_append]at hu⊢
    by_cases hj2:j-p<cs.length
    ·rw[if_pos hj2]at hu⊢;exact hu
    ·rw[if_neg hj2,List.getElem?_drop]at hu⊢;have:=i4 (p+cs.length+(j-p-cs.length)) u hu;rw[show off+p+cs.length+(j-p-cs.length)=off+(p+cs.length+(j-p-cs.length)) by omega];simpa using this
structure ShSt(W:World)(B0 Bb Mb:Nat)(tg:TgF)(r:List Int×C.Bd)(k:Nat)(A:Option Addr)(c:Nat)(w':World)(tg':TgF):Prop where
 bu:∃vc',BAt w' B0 Bb Mb tg' vc' r.2
 up:Up B0 tg W tg' w'
 wd:WdAt w' tg' A c r.1
 nw:0<k->∀g,(Value.slice A r.1.length c).ownBlock=some g->W.heap.size<=g
section
variable {w w' : World} {B0 Bb Mb : Nat} {tg tg' : TgF} {vc : Value} {b : C.Bd}
theorem aI8(h:BAt w B0 Bb Mb tg vc b){A1 A2:Option Addr}{c1 c2:Nat}{x y:List Int}{a:Int}(hx:WdAt w tg A1 c1 x)(hy:WdAt w tg A2 c2 y)(hxb:C.Wb x)(hyb:C.Wb y)(hab:C.Ib a)(hl:x.length=y.length)(h1:1<=x.length)(hm:x.length<=64):
 Calls prog 159 #[.pointer (some ⟨Bb,0,none⟩), .slice A1 x.length c1, .slice A2 y.length c2, .int .i64 a] w (WPost w B0 Bb Mb tg (C.shift x y a b)):=by
 have hB:=h.lt Bb _ h.st.2;obtain⟨n,hxl⟩:∃n,x.length=n:=⟨_,rfl⟩;have Hbo:=kH (aEo hxb hyb hab h.bo);have Hw:=kH (And.intro hx hy);have Hwb:=kH (And.intro hxb (And.intro hyb hab));have Hl:=kH (And.intro hxl hl);have HW0:=kH (show ShSt w B0 Bb Mb tg (C.aA4 x y a b 0) 0 A1 c1 w tg from⟨⟨vc,h⟩,Up.refl _ _ _,hx,fun h=>by omega⟩);have He:=kH (show C.shift x y a b=C.aA4 x y a b n from by unfold C.shift;rw[<-hl,hxl]);have HF:=kH (fun W:World=>aD8 (w:=W) (x:=a) (n:=n) (by omega) (by omega));have Hrl:=kH (aDg n a);rw[<-hl,hxl];rw[hxl]at hm h1;clear h hx hy hxb hyb hl hxl hab
 go_enter func159,ntmps159
 go_wp2
 go_loopw [10,19] (fun v i wr=>∃k:Nat,k<=n/\i= .int .i64 (k:Int)/\∃A cap tg',v= .slice A n cap/\Hid (ShSt w B0 Bb Mb tg (C.aA4 x y a b k) k A cap wr tg')) (fun _ i _=>n- (intOf i).toNat)
 case atStart=>exact⟨0,zBL _,rfl,A1,c1,tg,rfl,HW0⟩
 case round=>
  obtain⟨k,hk,rfl,A,cap,tgk,rfl,HS⟩:=hrel
  by_cases hlt:k<n
  ·have hky:k<y.length:=by have:=Hl.out.1;have:=Hl.out.2;omega
   obtain⟨g2,o2,rfl,e2⟩:=(Hw.out.2.up HS.out.up).cell hky;obtain⟨yk,hyk⟩:∃v,y.getD k 0=v:=⟨_,rfl⟩;rw[hyk]at e2;have iy:C.Ib yk:=by rw[<-hyk];exact wb_at Hwb.out.2.1 hky
   have hbk:=Hbo.out k (Nat.le_of_lt hky);obtain⟨r,hr⟩:∃r,C.aA4 x y a b k=r:=⟨_,rfl⟩;have hnx:C.aA4 x y a b (k+1)=C.picks yk (C.moved n k a r.1) r.1 r.2:=by rw[C.aA4,hyk,hr,Hl.out.1]
   rw[hr]at HS hbk;have hrl:r.1.length=n:=by rw[hbk.2.2,Hl.out.1]
   have hml:(C.moved n k a r.1).length=n:=C.aKa hrl;have hmb:C.Wb (C.moved n k a r.1):=aSn Hwb.out.2.2 hbk.2.1;obtain⟨m,hmv⟩:∃m,C.moved n k a r.1=m:=⟨_,rfl⟩;have hmv':=hmv;unfold C.moved at hmv';rw[hmv]at hnx hml hmb;have Hr:=kH (And.intro hrl (And.intro hbk (And.intro hml (And.intro hmb (And.intro iy (And.intro hnx hmv'))))));have HFk:=kH (HF.out wr);clear hr hnx hrl hbk hml hmb iy hmv hmv' hyk hky;have HP:Hid (∀(wn:World) (A3:Option Addr) (c3:Nat),Below wr.heap.size wr wn->OwnAt wn 3 1 (.slice A3 m.length c3) m.length (siv m)->(∀g,(Value.slice A3 m.length c3).ownBlock=some g->wr.heap.size<=g)->
    Calls prog 118 #[.pointer (some ⟨Bb,0,none⟩), .int .i64 yk, .slice A3 n c3, .slice A n cap] wn fun e w2=>∃A4 c4 tg4,e= .returned (.slice A4 n c4)/\ShSt w B0 Bb Mb tg (C.aA4 x y a b (k+1)) (k+1) A4 c4 w2 tg4):=kH (by
    intro wn A3 c3 hb hown hnew;obtain⟨vk,hbu⟩:=HS.out.bu;have q1:=hbu.below hb;have q2:=hbu.up hb;have q3:WdAt wn tgk A3 c3 m:=⟨hown,fun g hg=>hbu.none_ (hnew g hg)⟩;have q4:=HS.out.wd.up q2;have q5:=aEm q1 Hr.out.2.2.2.2.1 q3 q4 Hr.out.2.2.2.1 Hr.out.2.1.2.1 (by rw[Hr.out.2.2.1,Hr.out.1]) (by rw[Hr.out.2.2.1];omega);rw[Hr.out.2.2.1,Hr.out.1]at q5;refine q5.mono ?_;rintro e w2 ⟨A4,c4,tg4,rfl,q6⟩;have hpl:(C.picks yk m r.1 r.2).1.length=n:=by unfold C.picks;rw[C.aCa];exact Hr.out.2.2.1
    rw[hpl]at q6⊢;refine⟨A4,c4,tg4,rfl,?_⟩;rw[Hr.out.2.2.2.2.2.1];refine⟨q6.bu,HS.out.up.trans (q2.trans q6.up),⟨by rw[hpl];have:=q6.nw.1;rw[hpl]at this;exact this,fun g hg=>(q6.nw.2 g (by rw[hpl]at hg;exact hg)).2⟩,fun _ g hg=>?_⟩;have:=(q6.nw.2 g (by rw[hpl]at hg;exact hg)).1;have:=HS.out.up.un.size;have:=hb.size;omega)
   go_upto_region 6 with(fail)
   go_wp2_with fail
   refine HFk.out.mono ?_;rintro e w3 ⟨A3,c3,rfl,k1,k2,k3⟩;rw[Hrl.out]at k2 k3⊢;have Hk:=kH (And.intro k1 (And.intro k2 k3));clear k1 k2 k3 HFk e2
   by_cases hc:k<6/\2 ^ k<n
   ·obtain⟨p,hp⟩:∃p,2 ^ k=p:=⟨_,rfl⟩;have hmv:=Hr.out.2.2.2.2.2.2;rw[if_pos hc,hp]at hmv;have hsh:wrap64 (2 ^ k)=(p:Int):=by
     have h64:p<=64:=by omega
     have e:((2:Int) ^ k)=((p:Nat):Int):=by rw[<-hp];simp
     rw[e];exact B.aBz (by omega) (by omega)
    obtain⟨q,hq⟩:∃q,n-p=q:=⟨_,rfl⟩;have hsh2:IntKind.i64.wrap (2 ^ k)=(p:Int):=by
     have e:((2:Int) ^ k)=((p:Nat):Int):=by rw[<-hp];simp
     rw[e];exact IntWalk.i64_in _ (by omega)
    have hple:p<=n:=by omega
    have Hnq:=kH hq;have hd6:decide ((k:Int) < 6)=true:=by simp;omega
    have hpn:p<n:=by omega
    have hdp:decide ((p:Int) <(n:Int))=true:=by simp;omega
    have hqi:((n:Nat):Int)- ((p:Nat):Int)=((q:Nat):Int):=by omega
    have hwq:IntKind.i64.wrap ((n:Int)- (p:Int))=(q:Int):=by rw[hqi];exact IntWalk.i64_in _ (by omega)
    have hqn:q<=n:=by omega
    obtain⟨g3,o3,c3',q1,e3,_,hcc,_⟩:=aAg Hk.out.2.1 (aBx (l:=C.rep n a) (i:=0) (by rw[Hrl.out];omega));injection q1 with q1 _ q2
    subst q1 q2;have hcl:(siv (r.1.take q)).length=q:=by rw[aBu,zAZ,Hr.out.1];omega
    obtain⟨cur,r1,r2,r3⟩:=aXb Hk.out.2.1 p (siv (r.1.take q)) (by rw[hcl];omega);have hU3:=(show Up B0 tgk wr tgk w3 from by obtain⟨vk,hbu⟩:=HS.out.bu;exact hbu.up Hk.out.1);have hA3:=HS.out.wd.up hU3;have hsrc:∀j v,(siv (r.1.take q))[j]? =some v->∃ad:Addr,A=some ad/\w3.cell? (ad.add j)=some v:=fun j v hj=>by
     have hj2:j<q:=by have:=(zAA.1 hj).1;omega
     have hj3:(siv r.1)[j]? =some v:=by
      rw[aMm,zBB,if_pos hj2]at hj;exact hj
     obtain⟨g5,o5,c5,q1,q2,_⟩:=aAg hA3.1 hj3;injection q1 with q1 _ _
     exact⟨_,q1,by rw[show(⟨g5,o5,none⟩:Addr).add j=⟨g5,o5+j,none⟩from by simp[Addr.add]];exact q2⟩
    obtain⟨g5,o5,c5,q1,_,_,hc5,_⟩:=aAg hA3.1 (aBx (l:=r.1) (i:=0) (by rw[Hr.out.1];omega));injection q1 with q1 _ q2
    subst q1 q2;rw[Hr.out.1]at hc5;have hgb:=Hk.out.2.2 g3 rfl;have Hcs:=kH (And.intro hcl (And.intro hsrc (And.intro r1 (And.intro r2 (And.intro r3 (And.intro hgb hmv))))));have hcne:¬(c3=p):=by omega
    have hpc:p<=c3:=by omega
    have hqc:q<=cap:=by omega
    have Hb3:=kH (Hk.out.1.drew);clear hcl hsrc r1 r2 r3 hgb hmv hU3 hA3 e3 hqi hq hp hc
    go_upto_region 8 with(fail)
    go_cut [13] (fun s13 wy=>∃A8 c8,s13= .slice A8 n c8/\Hid (Below wr.heap.size wr wy)/\Hid (OwnAt wy 3 1 (.slice A8 m.length c8) m.length (siv m))/\Hid (∀g,(Value.slice A8 m.length c8).ownBlock=some g->wr.heap.size<=g))
    case first=>
     go_region_law (first
      | (refine step_copy_splice rfl (.tmp 38) (.tmp 44) _ _ rfl 3 underlying69 (by kernel_rfl) (some ⟨g3, o3 + p, none⟩) (some ⟨g5, o5, none⟩) (n - p) (c3 - p) q cap (by go_simp) (by go_simp) g3 (o3 + p) cur 3 Hcs.out.2.2.1 (siv (r.1.take q)) (by rw [Hcs.out.1, Hnq.out]; simp) (fun _ => ⟨rfl, _, rfl, fun j v hj => by
          obtain⟨ad,q1,q2⟩:=Hcs.out.2.1 j v hj;injection q1 with q1
          rw[q1];exact q2⟩) Hcs.out.2.2.2.1 (fun v hv=>by
          obtain⟨z,_,rfl⟩:=zBU.1 hv;rfl) wr.heap.size wr Hb3.out Hcs.out.2.2.2.2.2.1 ?_
         intro w5 hrow hb5;have Hr5:=kH (And.intro hrow hb5);clear hrow hb5))
     all_goals
      go_wp2
      go_meet
      have hown:=Hcs.out.2.2.2.2.1 _ Hr5.out.1.out;have hml:m.length=n:=Hr.out.2.2.1;have hlist:(siv (C.rep n a)).take p ++ siv (r.1.take q)++(siv (C.rep n a)).drop (p+(siv (r.1.take q)).length)=siv m:=by
       rw[<-Hcs.out.2.2.2.2.2.2,Hnq.out,aEl,Hcs.out.1];have e1:(siv (C.rep n a)).take p=siv (List.replicate p a):=by
        simp[siv,C.rep,List.take_replicate,Nat.min_eq_left hple]
       have e2:(siv (C.rep n a)).drop (p+q)= []:=by
        apply List.drop_eq_nil_of_le;rw[aBu,Hrl.out];have:=Hnq.out;omega
       rw[e1,e2,List.append_nil]
      rw[hlist]at hown;refine⟨some ⟨g3,o3,none⟩,c3,rfl,kH Hr5.out.2,kH (by rw[hml];exact hown),kH (by rw[hml];exact fun g hg=>Hk.out.2.2 g hg)⟩
    case rest=>
    obtain⟨A8,c8,rfl,Hb8,Ho8,Hn8⟩:=hcut;have HPk:=kH (HP.out _ A8 c8 Hb8.out Ho8.out Hn8.out);clear HP
    go_wp2_with fail
    refine HPk.out.mono ?_;rintro e w4 ⟨A4,c4,tg4,rfl,z⟩;have Hz:=kH z;clear z;go_wp2;go_roundw
    case rel=>exact⟨k+1,by omega,by go_num,A4,c4,tg4,rfl,Hz⟩
    case measure=>simp[intOf];omega
   ·have hmv:=Hr.out.2.2.2.2.2.2;rw[if_neg hc]at hmv;have Hm':=kH (show m=C.rep n a from hmv.symm);have hmn:m.length=n:=Hr.out.2.2.1;have HPk:=HP.out w3 A3 c3 Hk.out.1 (by rw[hmn,Hm'.out];exact Hk.out.2.1) (by rw[hmn];exact Hk.out.2.2);have HPk:=kH HPk;clear hmv hmn HP
    by_cases h6:k<6
    ·obtain⟨p,hp⟩:∃p,2 ^ k=p:=⟨_,rfl⟩;have h26:p<=64:=by
      have:2 ^ k<=2 ^ 6:=zAJ (by decide) (by omega);omega
     have hsh:wrap64 (2 ^ k)=(p:Int):=by
      have e:((2:Int) ^ k)=((p:Nat):Int):=by rw[<-hp];simp
      rw[e];exact B.aBz (by omega) (by omega)
     have hd6:decide ((k:Int) < 6)=true:=by simp;omega
     have hpn:¬(p<n):=by rw[<-hp];exact fun h=>hc ⟨h6,h⟩
     have hdp:decide ((p:Int) <(n:Int))=false:=by simp;omega
     clear hc hp
     go_wp2_with fail
     refine HPk.out.mono ?_;rintro e w4 ⟨A4,c4,tg4,rfl,z⟩;have Hz:=kH z;clear z;go_wp2;go_roundw
     case rel=>exact⟨k+1,by omega,by go_num,A4,c4,tg4,rfl,Hz⟩
     case measure=>simp[intOf];omega
    ·have hd6:decide ((k:Int) < 6)=false:=by simp;omega
     clear hc
     go_wp2_with fail
     refine HPk.out.mono ?_;rintro e w4 ⟨A4,c4,tg4,rfl,z⟩;have Hz:=kH z;clear z;go_wp2;go_roundw
     case rel=>exact⟨k+1,by omega,by go_num,A4,c4,tg4,rfl,Hz⟩
     case measure=>simp[intOf];omega
  ·have hkm:k=n:=by omega
   subst hkm;go_wp2;go_ret;rw[He.out];have hlen:=(Hbo.out k (by rw[<-Hl.out.2,Hl.out.1];exact zBJ _)).2.2;rw[Hl.out.1]at hlen;refine⟨A,cap,tgk,by rw[hlen];rfl,HS.out.bu,HS.out.up,?_,fun g hg=>?_⟩
   ·have:=HS.out.wd.1;rw[hlen]at this⊢;exact this
   ·have hnw:=HS.out.nw (by omega) g;have hwd:=HS.out.wd.2 g;rw[hlen]at hnw hwd hg;exact⟨hnw hg,hwd hg⟩
end
theorem aMo{x:List Int}(hx:C.Wb x){b:C.Bd}(hb:C.Bo b):∀i,i<=x.length->C.Bo (C.allTo x b i).2/\C.Ib (C.allTo x b i).1
 | 0,_=>⟨hb,C.ib1⟩
 | i+1,hi=>by
  obtain⟨h1,h2⟩:=aMo hx hb i (by omega);exact C.aDc h1 h2 (wb_at hx (i:=i) (by omega))
section
variable {w w' : World} {B0 Bb Mb : Nat} {tg tg' : TgF} {vc : Value} {b : C.Bd}
theorem bBv(h:BAt w B0 Bb Mb tg vc b){A1:Option Addr}{c1:Nat}{x:List Int}(hx:WdAt w tg A1 c1 x)(hxb:C.Wb x)(hm:x.length<=100000):
 Calls prog 192 #[.pointer (some ⟨Bb,0,none⟩), .slice A1 x.length c1] w (GPost w B0 Bb Mb tg (C.allTo x b x.length)):=by
 obtain⟨m,hxl⟩:∃m,x.length=m:=⟨_,rfl⟩;have Hbo:=kH (aMo hxb h.bo);have Hw:=kH hx;have Hwb:=kH hxb;have Hl:=kH hxl;have HW0:=kH (show∃v',BAt w B0 Bb Mb tg v' (C.allTo x b 0).2/\Up B0 tg w tg w from⟨vc,h,Up.refl _ _ _⟩);rw[hxl];rw[hxl]at hm;clear h hx hxb hxl
 go_enter func192,ntmps192
 go_wp2
 go_loopw [5,10] (fun v i wr=>∃k:Nat,k<=m/\i= .int .i64 (k:Int)/\v= .int .i64 (C.allTo x b k).1/\∃tg',Hid (∃v',BAt wr B0 Bb Mb tg' v' (C.allTo x b k).2/\Up B0 tg w tg' wr)) (fun _ i _=>m- (intOf i).toNat)
 case atStart=>exact⟨0,zBL _,rfl,rfl,tg,HW0⟩
 case round=>
  obtain⟨k,hk,rfl,rfl,tgk,HS⟩:=hrel
  by_cases hlt:k<m
  ·have hkx:k<x.length:=by rw[Hl.out];exact hlt
   obtain⟨vk,hb,hu⟩:=HS.out;obtain⟨g1,o1,rfl,e1⟩:=(Hw.out.up hu).cell hkx;obtain⟨xk,hxk⟩:∃v,x.getD k 0=v:=⟨_,rfl⟩;obtain⟨i1,i2⟩:=Hbo.out k (Nat.le_of_lt hkx);have ix:C.Ib xk:=by rw[<-hxk];exact wb_at Hwb.out hkx
   have hnx:C.allTo x b (k+1)=C.and (C.allTo x b k).1 xk (C.allTo x b k).2:=by rw[C.allTo,hxk]
   obtain⟨r,hr⟩:∃r,C.allTo x b k=r:=⟨_,rfl⟩;rw[hr]at hnx i1 i2 hb;rw[hr];rw[hxk]at e1;have HA:=kH (aD7 hb i2 ix);obtain⟨q,hq⟩:∃q,C.and r.1 xk r.2=q:=⟨_,rfl⟩;rw[hq]at HA hnx;have Hnx:=kH hnx;have Hu:=kH hu;clear hkx hb hu hxk i1 i2 ix hnx hr hq HS
   go_wp2_with fail
   refine HA.out.mono ?_;rintro e w2 ⟨rfl,tg2,v2,k1,k2⟩;have HK:=kH (show∃v',BAt w2 B0 Bb Mb tg2 v' q.2/\Up B0 tg w tg2 w2 from⟨v2,k1,Hu.out.trans k2⟩);clear k1 k2 HA e1;go_wp2;go_roundw
   case rel=>exact⟨k+1,by omega,by go_num,by rw[Hnx.out],tg2,by rw[Hnx.out];exact HK⟩
   case measure=>simp[intOf];omega
  ·have hkm:k=m:=by omega
   subst hkm;go_wp2;go_ret;obtain⟨v,h1,h2⟩:=HS.out;exact⟨rfl,tgk,v,h1,h2⟩
theorem aNy(h:BAt w B0 Bb Mb tg vc b){A1 A2:Option Addr}{c1 c2:Nat}{x y:List Int}(hx:WdAt w tg A1 c1 x)(hy:WdAt w tg A2 c2 y)(hxb:C.Wb x)(hyb:C.Wb y)(hl:x.length=y.length)(hm:x.length<=100000):
 Calls prog 150 #[.pointer (some ⟨Bb,0,none⟩), .slice A1 x.length c1, .slice A2 y.length c2] w (GPost w B0 Bb Mb tg (C.below x y b)):=by
 have HN:=kH (aI2 hy.1 hyb (by omega));have hnl:(C.notw y).length=x.length:=by rw[C.aBy,hl]
 have hcb:=(aC8 C.ib1 hxb (aEw hyb) h.bo (by omega) x.length (zBJ _)).2.2;have He:=kH (show C.below x y b=(-(C.sum x (C.notw y) 1 b).1.2,(C.sum x (C.notw y) 1 b).2)from rfl);obtain⟨r,hr⟩:∃r,C.sum x (C.notw y) 1 b=r:=⟨_,rfl⟩;rw[show C.sumTo x (C.notw y) 1 b x.length=r from hr]at hcb;rw[hr]at He;have Hr:=kH hr;have H:=kH h;have Hw:=kH hx;have Hxb:=kH (And.intro hxb hyb);obtain⟨m,hxl⟩:∃m,x.length=m:=⟨_,rfl⟩;rw[hxl]at hnl hm hl;rw[<-hl]at HN;have Hl:=kH (And.intro hxl (And.intro hnl hm));rw[<-hl,hxl];unfold C.Ib at hcb;clear h hx hy hxb hyb hnl hr hxl hl
 go_enter func150,ntmps150
 go_wp2_with fail
 refine HN.out.mono ?_;rintro e w1 ⟨A3,c3,rfl,k1,k2,k3⟩;have U1:=kH (H.out.up k1);have hW3:=NPost.wd H.out k2 k3;have HS:=kH (aF5 (H.out.below k1) C.ib1 (Hw.out.up (H.out.up k1)) hW3 Hxb.out.1 (aEw Hxb.out.2) (by rw[Hl.out.1,Hl.out.2.1]) (by rw[Hl.out.1];exact hm));rw[Hl.out.2.1];rw[Hl.out.2.1,Hl.out.1,Hr.out]at HS;clear k1 k2 k3 hW3 HN
 go_wp2_with fail
 refine HS.out.mono ?_;rintro e w2 ⟨A4,c4,tg4,rfl,k⟩;obtain⟨v4,kb⟩:=k.bu;have Hf:=kH (And.intro kb (U1.out.trans k.up));clear k kb HS;go_wp2;go_ret;rw[He.out];exact⟨rfl,tg4,v4,Hf.out.1,Hf.out.2⟩
end
theorem aOu{x y:List Int}(hx:C.Wb x)(hy:C.Wb y){b:C.Bd}(hb:C.Bo b)(hl:x.length<=y.length):∀i,i<=x.length->C.Bo (C.eqTo x y b i).2/\C.Wb (C.eqTo x y b i).1
 | 0,_=>⟨hb,fun l h=>by cases h⟩
 | i+1,hi=>by
  obtain⟨h1,h2⟩:=aOu hx hy hb hl i (by omega);obtain⟨h3,h4⟩:=C.aFt h1 (wb_at hx (i:=i) (by omega)) (wb_at hy (i:=i) (by omega));exact⟨h3,fun l hm=>by
   rcases zBE.1 hm with hm | hm
   ·exact h2 l hm
   ·rw[zBD.1 hm];exact h4.neg⟩
theorem eqTo_len{x y:List Int}{b:C.Bd}:∀i,(C.eqTo x y b i).1.length=i
 | 0=>rfl
 | i+1=>by simp[C.eqTo,eqTo_len i]
section
variable {w w' : World} {B0 Bb Mb : Nat} {tg tg' : TgF} {vc : Value} {b : C.Bd}
theorem aXc(h:BAt w B0 Bb Mb tg vc b){A1 A2:Option Addr}{c1 c2:Nat}{x y:List Int}(hx:WdAt w tg A1 c1 x)(hy:WdAt w tg A2 c2 y)(hxb:C.Wb x)(hyb:C.Wb y)(hl:x.length=y.length)(hm:x.length<=100000):
 Calls prog 149 #[.pointer (some ⟨Bb,0,none⟩), .slice A1 x.length c1, .slice A2 y.length c2] w (GPost w B0 Bb Mb tg (C.equal x y b)):=by
 have hB:=h.lt Bb _ h.st.2;obtain⟨m,hxl⟩:∃m,x.length=m:=⟨_,rfl⟩;have Hbo:=kH (aOu hxb hyb h.bo (by omega));have Hw:=kH (And.intro hx hy);have Hwb:=kH (And.intro hxb hyb);have Hl:=kH (And.intro hxl hl);have HW0:=kH (show WSt w B0 Bb Mb tg (C.eqTo x y b 0) (.slice none 0 0) w tg from⟨⟨vc,h⟩,Up.refl _ _ _,WdNew.nil _ _ _⟩);have He:=kH (show C.equal x y b=C.allTo (C.eqTo x y b m).1 (C.eqTo x y b m).2 m from by unfold C.equal;rw[hxl,eqTo_len]);have Hcf:=kH (show∀(args:Array Value) (X:World),Sem.run prog (callFunc 157 args) X= .ok (.enter 157 args) X from fun args X=>by simp[go_sem,callFunc,Tryz.f157]);rw[<-hl,hxl];rw[hxl]at hm;clear h hx hy hxb hyb hl hxl
 go_enter func149,ntmps149
 go_wp2
 go_loopw [7,11] (fun v i wr=>∃k:Nat,k<=m/\i= .int .i64 (k:Int)/\∃A cap tg',v= .slice A k cap/\Hid (WSt w B0 Bb Mb tg (C.eqTo x y b k) v wr tg')) (fun _ i _=>m- (intOf i).toNat)
 case atStart=>exact⟨0,zBL _,rfl,none,0,tg,rfl,HW0⟩
 case round=>
  obtain⟨k,hk,rfl,A,cap,tgk,rfl,HS⟩:=hrel
  by_cases hlt:k<m
  ·have hX:=Hw.out.1.up HS.out.up;have hY:=Hw.out.2.up HS.out.up;have hkx:k<x.length:=by rw[Hl.out.1];exact hlt
   have hky:k<y.length:=by rw[<-Hl.out.2];exact hkx
   obtain⟨g1,o1,rfl,e1⟩:=hX.cell hkx;obtain⟨g2,o2,rfl,e2⟩:=hY.cell hky;obtain⟨xk,hxk⟩:∃v,x.getD k 0=v:=⟨_,rfl⟩;obtain⟨yk,hyk⟩:∃v,y.getD k 0=v:=⟨_,rfl⟩;have ix:C.Ib xk:=by rw[<-hxk];exact wb_at Hwb.out.1 hkx
   have iy:C.Ib yk:=by rw[<-hyk];exact wb_at Hwb.out.2 hky
   have ib:=(Hbo.out k (Nat.le_of_lt hkx)).1;obtain⟨r,hr⟩:∃r,C.eqTo x y b k=r:=⟨_,rfl⟩;rw[hr]at ib;have iq:=(C.aFt ib ix iy).2;obtain⟨q,hq⟩:∃q,C.xor xk yk r.2=q:=⟨_,rfl⟩;have hnx:C.eqTo x y b (k+1)=(r.1 ++ [-q.1],q.2):=by rw[C.eqTo,hxk,hyk,hr,hq]
   rw[hr]at HS;obtain⟨vck,hbk⟩:=HS.out.drew.bu;rw[hxk]at e1;rw[hyk]at e2;have hrl:r.1.length=k:=by rw[<-hr];exact eqTo_len k
   have HP:=kH (aHp hbk ix iy);rw[hq]at HP iq;unfold C.Ib at iq;have hwn:IntKind.i64.wrap (-q.1)= -q.1:=IntWalk.i64_in _ (by omega);have HD:=kH HS.out.drew;have Hnx:=kH (And.intro hnx hrl);clear hX hY hxk hyk hr hq hbk hnx hrl ix iy ib hkx hky
   go_upto_region 5 with(fail)
   go_wp2
   go_region_law (first
    | (refine aCs rfl 157 Hcf.out (.tmp 15) (.tmp 19) (.tmp 23) _ _ _ rfl (.pointer (some ⟨Bb, 0, none⟩)) (.int .i64 xk) (.int .i64 yk) (by go_simp) (by go_simp) (by go_simp) HP.out ?_
       rintro e w2 ⟨rfl,tg2,v2,k1,k2⟩;refine⟨_,rfl,?_⟩;have HK:=kH (HD.out.step k1 k2);clear k1 k2)
    | (refine aBp _ rfl (.tmp 14) (.tmp 26) 37 rfl 3 (.int .i64 0) 1 8 underlying37 Tryz.sinfoInt rfl (by decide) (.slice A k cap) k (siv r.1) (by go_simp) ((by have h0 := HK.out.nw.1; rw [show ((r.1, q.2) : List Int × C.Bd).1.length = k from Hnx.out.2] at h0; exact h0.alloc _)) (some ⟨w2.heap.size, 0, none⟩) 1 1 [.int .i64 (-q.1)] (by go_simp) rfl (aE9 w2 [.int .i64 (-q.1)] _) (by simp; rfl) (by omega) (by decide) ?_
       intro v' w4 hown hgr hat;obtain⟨Av,cv,hv⟩:=hown.form;subst hv;have Hq:=kH (HK.out.app (by omega) (l:= -q.1) (by rw[show((r.1,q.2):List Int×C.Bd).1.length=k from Hnx.out.2];exact hown) hgr hat);clear hown hgr hat))
   all_goals
    go_wp2;go_roundw
    case rel=>exact⟨k+1,by omega,by go_num,Av,cv,tg2,rfl,by rw[Hnx.out.1];exact Hq⟩
    case measure=>simp[intOf];omega
  ·have hkm:k=m:=by omega
   subst hkm;have hrl:(C.eqTo x y b k).1.length=k:=eqTo_len k;have hwb:=(Hbo.out k (zAM Hl.out.1.symm)).2;obtain⟨r,hr⟩:∃r,C.eqTo x y b k=r:=⟨_,rfl⟩;rw[hr]at hrl hwb HS He;obtain⟨rl,rb⟩:=r;obtain⟨vk,hb⟩:=HS.out.bu;have hwd:WdAt wr tgk A cap rl:=by
    have h1:=HS.out.nw;have e0:rl.length=k:=hrl;refine⟨?_,fun g hg=>?_⟩
    ·rw[e0];have:=h1.1;rw[show(rl,rb).1.length=k from hrl]at this;exact this
    ·rw[e0]at hg;exact(h1.2 g hg).2
   have HA:=kH (bBv hb hwd hwb (by rw[show rl.length=k from hrl];exact hm));rw[show rl.length=k from hrl]at HA;have Hu:=kH HS.out.up;clear hrl hwb hr hb hwd
   go_wp2_with fail
   refine HA.out.mono ?_;rintro e w2 ⟨rfl,tg2,v2,k1,k2⟩;have Hf:=kH (And.intro k1 (Hu.out.trans k2));clear k1 k2 HA;go_wp2;go_ret;rw[He.out];exact⟨rfl,tg2,v2,Hf.out.1,Hf.out.2⟩
end
end
section
structure RBo(n:Nat)(r:List Int×C.Bd):Prop where
 b:C.Bo r.2
 w:C.Wb r.1
 l:r.1.length=n
theorem aMp{c:Int}(hc:C.Ib c){x y:List Int}(hx:C.Wb x)(hy:C.Wb y){b:C.Bd}(hb:C.Bo b)(hl:x.length=y.length):RBo x.length (C.picks c x y b):=by
 obtain⟨h1,h2⟩:=aFw hc hx hy hb (zAM hl) x.length (zBJ _);exact⟨h1,h2,C.aCa⟩
theorem aPt{x:List Int}{b:C.Bd}(hb:C.Bo b)(hx:C.Wb x):RBo x.length (C.minus x b):=by
 obtain⟨h1,h2,h3⟩:=aI4 hb hx;exact⟨h1,h2,h3⟩
theorem aDh{x:List Int}{b:C.Bd}(hb:C.Bo b)(hx:C.Wb x)(h0:0<x.length):RBo x.length (C.aA6 x b):=by
 obtain⟨h1,h2,h3⟩:=aI4 hb hx;have:=aMp (c:=C.lastL x) (wb_at hx (by omega)) h2 hx h1 h3;rw[h3]at this;exact this
theorem aD9{x y:List Int}(hx:C.Wb x)(hy:C.Wb y)(hl:x.length=y.length){b:C.Bd}(hb:C.Bo b):DBo x.length (C.aA8 x y b):=aMn hx hy hl hb x.length (zBJ _)
theorem aSo{c:Int}{w:List Int}{b:C.Bd}(hc:C.Ib c)(hw:C.Wb w)(hb:C.Bo b):RBo w.length (C.negIf c w b):=by
 obtain⟨h1,h2,h3⟩:=aI4 hb hw;have:=aMp hc h2 hw h1 h3;rw[h3]at this;exact this
theorem bD1{x y:List Int}{b:C.Bd}(hb:C.Bo b)(hx:C.Wb x)(hy:C.Wb y)(hl:x.length=y.length)(h0:0<x.length):DBo x.length (C.mags x y b):=by
 obtain⟨h1,h2,h3⟩:=aDh hb hx h0;obtain⟨g1,g2,g3⟩:=aDh h1 hy (by omega);have:=aD9 h2 g2 (by rw[h3,g3,hl]) g1;rw[h3]at this;exact this
theorem bE9{op x y:Int}{b:C.Bd}(hb:C.Bo b)(hx:C.Ib x)(hy:C.Ib y):C.Bo (C.bw1 op x y b).2/\C.Ib (C.bw1 op x y b).1:=by
 unfold C.bw1;split
 ·exact C.aDc hb hx hy
 split
 ·exact C.or_bo hb hx hy
 ·exact C.aFt hb hx hy
theorem aIg{op:Int}{x y:List Int}(hx:C.Wb x)(hy:C.Wb y){b:C.Bd}(hb:C.Bo b)(hl:x.length<=y.length):∀i,i<=x.length->RBo i (C.bwTo op x y b i)
 | 0,_=>⟨hb,fun l h=>(by cases h),rfl⟩
 | i+1,hi=>by
  obtain⟨h1,h2,h3⟩:=aIg hx hy hb hl i (by omega);obtain⟨h4,h5⟩:=bE9 (op:=op) h1 (wb_at hx (i:=i) (by omega)) (wb_at hy (i:=i) (by omega));exact⟨h4,aEx h2 (aGm h5),by show(_ ++ [_]).length=_;simp[h3]⟩
theorem aPu{x y:List Int}{a:Int}(hx:C.Wb x)(hy:C.Wb y)(ha:C.Ib a){b:C.Bd}(hb:C.Bo b):RBo x.length (C.aB4 x y a b):=by
 obtain⟨h1,h2,h3⟩:=aEo (x:=x.reverse) (y:=y) (fun l hl=>hx l (List.mem_reverse.1 hl)) hy ha hb y.length (zBJ _);exact⟨h1,fun l hl=>h2 l (List.mem_reverse.1 hl),by show(List.reverse _).length=_;rw[List.length_reverse];exact h3.trans List.length_reverse⟩
theorem bBw{op:Int}{x y:List Int}(hx:C.Wb x)(hy:C.Wb y)(hl:x.length=y.length)(h0:0<x.length){b:C.Bd}(hb:C.Bo b):RBo x.length (C.arith op x y b):=by
 have hly:C.Ib (C.lastL y):=wb_at hy (by omega);have hlx:C.Ib (C.lastL x):=wb_at hx (by omega);have hm:=bD1 hb hx hy hl h0;unfold C.arith;split
 ·obtain⟨h1,h2,_⟩:=aC8 C.ibm1 hx hy hb (zAM hl) x.length (zBJ _);exact⟨h1,h2,C.aCg⟩
 split
 ·obtain⟨h1,h2,_⟩:=aC8 C.ib1 hx (aEw hy) hb (by rw[C.aBy,hl];exact zBJ _) x.length (zBJ _);exact⟨h1,h2,C.aCg⟩
 split
 ·obtain⟨h1,h2,h3⟩:=aI6 hx hy hl hb x.length (zBJ _);exact⟨h1,h2,h3⟩
 split
 ·have:=aD9 hx hy hl hb;exact⟨this.b,this.q,this.ql⟩
 split
 ·have:=aD9 hx hy hl hb;exact⟨this.b,this.r,this.rl⟩
 split
 ·obtain⟨k1,k2⟩:=C.aFt hm.b hlx hly;have:=aSo k2 hm.q k1;rw[hm.ql]at this;exact this
 split
 ·have:=aSo hlx hm.r hm.b;rw[hm.rl]at this;exact this
 split
 ·obtain⟨h1,h2,h3⟩:=aEo hx hy C.ibm1 hb y.length (zBJ _);exact⟨h1,h2,h3⟩
 split
 ·exact aPu hx hy C.ibm1 hb
 split
 ·exact aPu hx hy hlx hb
 ·exact aIg hx hy hb (zAM hl) x.length (zBJ _)
theorem aLh{x:List Int}(hx:C.Wb x)(h0:0<x.length):C.Wb (C.flip x):=aZb hx (wb_at hx (by omega):C.Ib (C.lastL x)).neg _
theorem aI9{x y:List Int}(hx:C.Wb x)(hy:C.Wb y){b:C.Bd}(hb:C.Bo b)(hl:x.length=y.length):C.Bo (C.equal x y b).2/\C.Ib (C.equal x y b).1:=by
 obtain⟨h1,h2⟩:=aOu hx hy hb (zAM hl) x.length (zBJ _);exact aMo h2 h1 _ (zBJ _)
theorem aEa{x y:List Int}(hx:C.Wb x)(hy:C.Wb y){b:C.Bd}(hb:C.Bo b)(hl:x.length=y.length):C.Bo (C.below x y b).2/\C.Ib (C.below x y b).1:=by
 obtain⟨h1,_,h3⟩:=aC8 C.ib1 hx (aEw hy) hb (by rw[C.aBy,hl];exact zBJ _) x.length (zBJ _);exact⟨h1,h3.neg⟩
theorem bD2{p:Int}{x y:List Int}(hx:C.Wb x)(hy:C.Wb y){b:C.Bd}(hb:C.Bo b)(hl:x.length=y.length)(h0:0<x.length):C.Bo (C.cmpC p x y b).2/\C.Ib (C.cmpC p x y b).1:=by
 have hu:C.Wb (if 6<=p then C.flip x else x):=by split;exact aLh hx h0;exact hx
 have hv:C.Wb (if 6<=p then C.flip y else y):=by split;exact aLh hy (by omega);exact hy
 have hl':(if 6<=p then C.flip x else x).length=(if 6<=p then C.flip y else y).length:=by split;rw[C.aD1,C.aD1];exact hl;exact hl
 unfold C.cmpC;simp only;generalize (if 6<=p then C.flip x else x)=u at*;generalize (if 6<=p then C.flip y else y)=v at*;generalize (if 6<=p then p-4 else p)=q at*;split
 ·exact aI9 hu hv hb hl'
 split
 ·exact⟨(aI9 hu hv hb hl').1,(aI9 hu hv hb hl').2.neg⟩
 split
 ·exact aEa hu hv hb hl'
 split
 ·exact⟨(aEa hv hu hb hl'.symm).1,(aEa hv hu hb hl'.symm).2.neg⟩
 split
 ·exact aEa hv hu hb hl'.symm
 ·exact⟨(aEa hu hv hb hl').1,(aEa hu hv hb hl').2.neg⟩
end
section
open Go.RowKit Go.MapKept Go.Maps Go.WideMaps
def CbAt(w:World)(tg:TgF)(Cb Bb:Nat):Prop:=Cb<w.heap.size/\tg Cb=none/\w.cell? ⟨Cb,0,none⟩=some (.pointer (some ⟨Bb,0,none⟩))
theorem CbAt.up{w w':World}{B0:Nat}{tg tg':TgF}{Cb Bb:Nat}(h:CbAt w tg Cb Bb)(u:Up B0 tg w tg' w'):CbAt w' tg' Cb Bb:=
 ⟨zAL h.1 u.un.size,(u.un.no Cb h.1 h.2.1).1,(aBn (u.un.no Cb h.1 h.2.1).2).trans h.2.2⟩
theorem bD3(p:Int)(x y:List Int)(b:C.Bd):C.cmpC p x y b=(if(if 6<=p then p-4 else p)=0 then C.equal (if 6<=p then C.flip x else x) (if 6<=p then C.flip y else y) b else if(if 6<=p then p-4 else p)=1 then(-(C.equal (if 6<=p then C.flip x else x) (if 6<=p then C.flip y else y) b).1,(C.equal (if 6<=p then C.flip x else x) (if 6<=p then C.flip y else y) b).2)
 else if(if 6<=p then p-4 else p)=2 then C.below (if 6<=p then C.flip x else x) (if 6<=p then C.flip y else y) b
 else if(if 6<=p then p-4 else p)=3 then(-(C.below (if 6<=p then C.flip y else y) (if 6<=p then C.flip x else x) b).1,(C.below (if 6<=p then C.flip y else y) (if 6<=p then C.flip x else x) b).2)
 else if(if 6<=p then p-4 else p)=4 then C.below (if 6<=p then C.flip y else y) (if 6<=p then C.flip x else x) b
 else(-(C.below (if 6<=p then C.flip x else x) (if 6<=p then C.flip y else y) b).1,(C.below (if 6<=p then C.flip x else x) (if 6<=p then C.flip y else y) b).2)):=rfl
section
variable {w w' : World} {B0 Bb Mb Cb : Nat} {tg tg' : TgF} {vc : Value} {b : C.Bd}
theorem aSp(h:BAt w B0 Bb Mb tg vc b)(hcb:CbAt w tg Cb Bb){A1 A2:Option Addr}{c1 c2:Nat}{x y:List Int}{p:Int}(hx:WdAt w tg A1 c1 x)(hy:WdAt w tg A2 c2 y)(hxb:C.Wb x)(hyb:C.Wb y)(hl:x.length=y.length)(h1:1<=x.length)(hm:x.length<=64)(hp0:0<=p)(hp9:p<=9):
 Calls prog 117 #[.pointer (some ⟨Cb,0,none⟩), .int .u32 p, .slice A1 x.length c1, .slice A2 y.length c2] w (GPost w B0 Bb Mb tg (C.cmpC p x y b)):=by
 have hu1:C.Wb (if 6<=p then C.flip x else x):=by split;exact aLh hxb h1;exact hxb
 have hv1:C.Wb (if 6<=p then C.flip y else y):=by split;exact aLh hyb (by omega);exact hyb
 have hul:(if 6<=p then C.flip x else x).length=x.length:=by split;rw[C.aD1];rfl
 have hvl:(if 6<=p then C.flip y else y).length=x.length:=by split;rw[C.aD1];exact hl.symm;exact hl.symm
 have hcs:=bD3 p x y b;obtain⟨u,hu⟩:∃u,(if 6<=p then C.flip x else x)=u:=⟨_,rfl⟩;obtain⟨v,hv⟩:∃v,(if 6<=p then C.flip y else y)=v:=⟨_,rfl⟩;obtain⟨q,hq⟩:∃q,(if 6<=p then p-4 else p)=q:=⟨_,rfl⟩;obtain⟨n,hxl⟩:∃n,x.length=n:=⟨_,rfl⟩;rw[hu,hv,hq]at hcs;rw[hu]at hu1 hul;rw[hv]at hv1 hvl;have hq0:0<=q/\q<=5:=by rw[<-hq];split <;> omega
 have Huv:=kH (And.intro hu1 (And.intro hv1 (And.intro (hul.trans hxl) (hvl.trans hxl))));have H:=kH h;have Hcb:=kH hcb;have Hcs:=kH hcs;have Hw:=kH (And.intro hx (And.intro hy (And.intro hxb hyb)));have hyl:y.length=n:=by omega
 have Hl:=kH (And.intro hxl hyl);have Hu:=kH (And.intro hu (And.intro hv hq));rw[hyl,hxl];rw[hxl]at h1 hm;clear h hcb hcs hx hy hxb hyb hl hu hv hq hu1 hv1 hul hvl hxl hyl
 go_enter func117,ntmps117
 go_upto_if 11 with(fail)
 go_cut [1,2,3] (fun s1 s2 s3 wy=>∃A3 c3 A4 c4,s1= .int .u32 q/\s2= .slice A3 n c3/\s3= .slice A4 n c4/\Hid (Below w.heap.size w wy)/\Hid (WdAt wy tg A3 c3 u)/\Hid (WdAt wy tg A4 c4 v))
 case first=>
  by_cases h6:6<=p
  ·have hd:decide ((6:Int)<=p)=true:=by simpa using h6
   have hq':p-4=q:=by have:=Hu.out.2.2;rw[if_pos h6]at this;exact this
   have hu':C.flip x=u:=by have:=Hu.out.1;rw[if_pos h6]at this;exact this
   have hv':C.flip y=v:=by have:=Hu.out.2.1;rw[if_pos h6]at this;exact this
   have Hf:=kH (And.intro hu' hv');have Hq:=kH hq';have HC1:=kH (aDl Hw.out.1 (by rw[Hl.out.1];omega));rw[Hl.out.1]at HC1;clear hq' hu' hv'
   go_wp2_with fail
   refine HC1.out.mono ?_;rintro e w1 ⟨A3,c3,rfl,k1,k2,k3⟩;rw[Hl.out.1]at k2 k3⊢;have Hk:=kH (And.intro k1 (And.intro k2 k3));have HC2:=kH (aDl (Hw.out.2.1.up (H.out.up k1)) (by rw[Hl.out.2];omega));rw[Hl.out.2]at HC2;clear k1 k2 k3 HC1
   go_wp2_with fail
   refine HC2.out.mono ?_;rintro e w2 ⟨A4,c4,rfl,m1,m2,m3⟩;rw[Hl.out.2]at m2 m3⊢;obtain⟨n1,hn1⟩:∃n1,n1+1=n:=⟨n-1,by omega⟩;have k2':=Hk.out.2.1.below m1 Hk.out.2.1.lt;obtain⟨g3,o3,c3',q1,e3,f3,_⟩:=aAg k2' (aBx (l:=x) (i:=n1) (by rw[Hl.out.1];omega));injection q1 with q1 _ q2
   subst q1 q2;obtain⟨g4,o4,c4',q1,e4,f4,_⟩:=aAg m2 (aBx (l:=y) (i:=n1) (by rw[Hl.out.2];omega));injection q1 with q1 _ q2
   subst q1 q2;have hg3:=Hk.out.2.2 g3 rfl;have hg3':=Hk.out.2.1.lt g3 rfl;have hg4:=m3 g4 rfl;have hne:g3≠g4:=by omega
   have hne':g4≠g3:=by omega
   have ilx:C.Ib (C.lastL x):=wb_at Hw.out.2.2.1 (by rw[Hl.out.1];omega);have ily:C.Ib (C.lastL y):=wb_at Hw.out.2.2.2 (by rw[Hl.out.2];omega);have elx:x.getD n1 0=C.lastL x:=by unfold C.lastL;rw[Hl.out.1,<-hn1];rfl
   have ely:y.getD n1 0=C.lastL y:=by unfold C.lastL;rw[Hl.out.2,<-hn1];rfl
   rw[elx]at e3;rw[ely]at e4;obtain⟨lx,hlx⟩:∃lx,C.lastL x=lx:=⟨_,rfl⟩;obtain⟨ly,hly⟩:∃ly,C.lastL y=ly:=⟨_,rfl⟩;rw[hlx]at ilx e3;rw[hly]at ily e4;unfold C.Ib at ilx ily;have hfx:x.set n1 (-lx)=u:=by rw[<-Hf.out.1];unfold C.flip;rw[hlx,Hl.out.1,<-hn1];rfl
   have hfy:y.set n1 (-ly)=v:=by rw[<-Hf.out.2];unfold C.flip;rw[hly,Hl.out.2,<-hn1];rfl
   have hput1:=(aG8 k2' (k:=n1) (by omega) (.int .i64 (-lx))).setCell (p:=⟨g4,o4+n1,none⟩) (by intro e;exact hne (by simpa[Value.ownBlock]using e)) (.int .i64 (-ly));rw[<-aDd,hfx]at hput1;have hput2:=aG8 (m2.setCell (p:=⟨g3,o3+n1,none⟩) (by intro e;exact hne' (by simpa[Value.ownBlock]using e)) (.int .i64 (-lx))) (k:=n1) (by omega) (.int .i64 (-ly));rw[<-aDd,hfy]at hput2;have f3':=f3 (o3+n1);have f4':=f4 (o4+n1);have hni:((n:Nat):Int)-1=((n1:Nat):Int):=by omega
   have Hm:=kH (And.intro m1 (And.intro m2 m3));have Hp1:=kH hput1;have Hp2:=kH hput2;have Hne:=kH (And.intro hne (And.intro hg3 (And.intro hg4 hg3')));have Hni:=kH hni;have hwn:IntKind.i64.wrap ((n:Int)-1)=(n1:Int):=by rw[hni];exact IntWalk.i64_in _ (by omega)
   have hlt3:n1<n:=by omega
   have hwq:IntKind.u32.wrap (p-4)=q:=by
    have h5:=Hq.out;rw[h5,IntKind.wrap_u32];omega
   clear m1 m2 m3 k2' f3 f4 hput1 hput2 hlx hly hfx hfy elx ely HC2 hn1
   go_upto_region 4 with(fail)
   go_region
   obtain⟨wn,hwn⟩:∃wn,wn=((w2.setCell ⟨g3,o3+n1,none⟩ (.int .i64 (-lx))).setCell ⟨g4,o4+n1,none⟩ (.int .i64 (-ly))).drew:=⟨_,rfl⟩;rw[<-hwn];have hbn:Below w.heap.size w wn:=by
    rw[hwn];exact(((Hk.out.1.trans (Hm.out.1.mono Hk.out.1.size)).setCell (p:=⟨g3,o3+n1,none⟩) Hne.out.2.1 _).setCell (p:=⟨g4,o4+n1,none⟩) (by show w.heap.size<=g4;have:=Hk.out.1.size;have:=Hne.out.2.2.1;omega) _).drew
   have hun:OwnAt wn 3 1 (.slice (some ⟨g3,o3,none⟩) n c3) n (siv u):=by
    rw[hwn];exact Hp1.out.same fun _ _=>rfl
   have hvn:OwnAt wn 3 1 (.slice (some ⟨g4,o4,none⟩) n c4) n (siv v):=by
    rw[hwn];exact Hp2.out.same fun _ _=>rfl
   have Hn:=kH (And.intro hbn (And.intro hun hvn));clear hwn hbn hun hvn e3 e4 f3' f4';go_wp2
   go_meet
   refine⟨some ⟨g3,o3,none⟩,c3,some ⟨g4,o4,none⟩,c4,rfl,rfl,rfl,kH Hn.out.1,kH ⟨by rw[Huv.out.2.2.1];exact Hn.out.2.1,fun g hg=>?_⟩,kH ⟨by rw[Huv.out.2.2.2];exact Hn.out.2.2,fun g hg=>?_⟩⟩
   ·have e:g3=g:=by simpa[Value.ownBlock]using hg
    rw[<-e];exact H.out.none_ Hne.out.2.1
   ·have e:g4=g:=by simpa[Value.ownBlock]using hg
    rw[<-e];exact H.out.none_ (by have:=Hk.out.1.size;have:=Hne.out.2.2.1;omega)
  ·have hd:decide ((6:Int)<=p)=false:=by simpa using h6
   have hq':p=q:=by have:=Hu.out.2.2;rw[if_neg h6]at this;exact this
   have hu':x=u:=by have:=Hu.out.1;rw[if_neg h6]at this;exact this
   have hv':y=v:=by have:=Hu.out.2.1;rw[if_neg h6]at this;exact this
   have Hf:=kH (And.intro hq' (And.intro hu' hv'));clear hq' hu' hv';go_wp2
   go_meet
   have hw:=Hw.out;rw[Hf.out.2.1,Hf.out.2.2]at hw;exact⟨A1,c1,A2,c2,by rw[Hf.out.1],rfl,rfl,kH (Below.refl _ _),kH hw.1,kH hw.2.1⟩
 case rest=>
 obtain⟨A3,c3,A4,c4,rfl,rfl,rfl,Hb,Hx3,Hy4⟩:=hcut;have hbw:=H.out.below Hb.out;have huw:=H.out.up Hb.out;have hcw:=Hcb.out.up huw;have k0:=hcw.2.2;have hl1:=Huv.out.2.2.1;have hl2:=Huv.out.2.2.2;have HE:=kH (aXc hbw Hx3.out Hy4.out Huv.out.1 Huv.out.2.1 (by rw[hl1,hl2]) (by rw[hl1];omega));have HB1:=kH (aNy hbw Hx3.out Hy4.out Huv.out.1 Huv.out.2.1 (by rw[hl1,hl2]) (by rw[hl1];omega));have HB2:=kH (aNy hbw Hy4.out Hx3.out Huv.out.2.1 Huv.out.1 (by rw[hl1,hl2]) (by rw[hl2];omega));have ie:=(aI9 Huv.out.1 Huv.out.2.1 H.out.bo (by rw[hl1,hl2])).2;have i1:=(aEa Huv.out.1 Huv.out.2.1 H.out.bo (by rw[hl1,hl2])).2;have i2:=(aEa Huv.out.2.1 Huv.out.1 H.out.bo (by rw[hl1,hl2])).2;rw[hl1,hl2]at HE HB1 HB2;obtain⟨re,hre⟩:∃r,C.equal u v b=r:=⟨_,rfl⟩;obtain⟨r1,hr1⟩:∃r,C.below u v b=r:=⟨_,rfl⟩;obtain⟨r2,hr2⟩:∃r,C.below v u b=r:=⟨_,rfl⟩;rw[hre]at HE ie;rw[hr1]at HB1 i1;rw[hr2]at HB2 i2;have Hre:=kH (And.intro hre (And.intro hr1 hr2));have Huw:=kH huw;unfold C.Ib at ie i1 i2;clear hbw huw hcw hl1 hl2 hre hr1 hr2;have hqc:q=0\/q=1\/q=2\/q=3\/q=4\/q=5:=by omega
 clear hq0 hp0 hp9;rcases hqc with rfl | rfl | rfl | rfl | rfl | rfl
 ·go_wp2_with fail
  refine HE.out.mono ?_;rintro e w2 ⟨rfl,tg2,v2,z1,z2⟩;have Hz:=kH (And.intro z1 z2);clear z1 z2;go_wp2;go_ret;rw[show C.cmpC p x y b=re from by rw[Hcs.out,Hre.out.1,Hre.out.2.1,Hre.out.2.2];rfl];exact⟨rfl,tg2,v2,Hz.out.1,Huw.out.trans Hz.out.2⟩
 ·go_wp2_with fail
  refine HE.out.mono ?_;rintro e w2 ⟨rfl,tg2,v2,z1,z2⟩;have Hz:=kH (And.intro z1 z2);clear z1 z2;go_wp2;go_ret;rw[show C.cmpC p x y b=(-re.1,re.2)from by rw[Hcs.out,Hre.out.1,Hre.out.2.1,Hre.out.2.2];rfl];exact⟨rfl,tg2,v2,Hz.out.1,Huw.out.trans Hz.out.2⟩
 ·go_wp2_with fail
  refine HB1.out.mono ?_;rintro e w2 ⟨rfl,tg2,v2,z1,z2⟩;have Hz:=kH (And.intro z1 z2);clear z1 z2;go_wp2;go_ret;rw[show C.cmpC p x y b=r1 from by rw[Hcs.out,Hre.out.1,Hre.out.2.1,Hre.out.2.2];rfl];exact⟨rfl,tg2,v2,Hz.out.1,Huw.out.trans Hz.out.2⟩
 ·go_wp2_with fail
  refine HB2.out.mono ?_;rintro e w2 ⟨rfl,tg2,v2,z1,z2⟩;have Hz:=kH (And.intro z1 z2);clear z1 z2;go_wp2;go_ret;rw[show C.cmpC p x y b=(-r2.1,r2.2)from by rw[Hcs.out,Hre.out.1,Hre.out.2.1,Hre.out.2.2];rfl];exact⟨rfl,tg2,v2,Hz.out.1,Huw.out.trans Hz.out.2⟩
 ·go_wp2_with fail
  refine HB2.out.mono ?_;rintro e w2 ⟨rfl,tg2,v2,z1,z2⟩;have Hz:=kH (And.intro z1 z2);clear z1 z2;go_wp2;go_ret;rw[show C.cmpC p x y b=r2 from by rw[Hcs.out,Hre.out.1,Hre.out.2.1,Hre.out.2.2];rfl];exact⟨rfl,tg2,v2,Hz.out.1,Huw.out.trans Hz.out.2⟩
 ·go_wp2_with fail
  refine HB1.out.mono ?_;rintro e w2 ⟨rfl,tg2,v2,z1,z2⟩;have Hz:=kH (And.intro z1 z2);clear z1 z2;go_wp2;go_ret;rw[show C.cmpC p x y b=(-r1.1,r1.2)from by rw[Hcs.out,Hre.out.1,Hre.out.2.1,Hre.out.2.2];rfl];exact⟨rfl,tg2,v2,Hz.out.1,Huw.out.trans Hz.out.2⟩
end
end
end Go.Proofs.YtchdbhggbdcapaaGreat
