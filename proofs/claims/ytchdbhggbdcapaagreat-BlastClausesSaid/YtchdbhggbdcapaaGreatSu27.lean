/- Part. -/
import Derived.Test.YtchdbhggbdcapaaGreatSuLX
import Derived.Test.YtchdbhggbdcapaaGreatSu02
set_option linter.unusedVariables false
set_option linter.unusedSimpArgs false
set_option maxRecDepth 100000
set_option maxHeartbeats 16000000
namespace Go.Proofs.YtchdbhggbdcapaaGreat
open _root_.Go.Proofs.Tryz
section
open Go.RowKit Go.Maps
theorem TrAt.start(w:World):TrAt ((w.alloc (.map #[] 0)).alloc (.cells #[.map (some w.heap.size), .slice none 0 0] 207)) w.heap.size (w.heap.size+1) w.heap.size [] (.slice none 0 0) []:=by
 refine⟨?_,?_,OwnAt.nil_ _ _ _,by omega,by omega,fun g hg=>(by simp[Value.ownBlock]at hg)⟩
 ·have h:=Go.heap_alloc_new (w.alloc (.map #[] 0)) (.cells #[.map (some w.heap.size), .slice none 0 0] 207);simpa using h
 ·exact(MapAt.made (R:=BoolK) w).keep (Below.heap_alloc _ _ _ (by simp)) (fun _ _ _ h=>h)
theorem BkAt9.clauses{w w0:World}{B0 Bk Mw:Nat}{cv:Value}{us:List Value}{cs:List (List Int)}{lw:List (Int×List Int)}{blk:Int->Option Nat}{N:Nat}(h:BkAt9 w w0 B0 Bk Mw cv us cs lw blk N)(hb:Below w0.heap.size w0 w):
 ∃A c,cv= .slice A cs.length c/\SlAt (SlR (IntR .i64)) w A cs.length cs:=by
 obtain⟨A,c,rfl⟩:=h.own.form;exact⟨A,c,rfl,h.own.slElems9 (aC9 (aAd _)) hb h.rows⟩
theorem TrAt.pop{w:World}{B0 T M:Nat}{l:List (Int×Bool)}{qv v':Value}{x:Int}{r:List Int}(h:TrAt w B0 T M l qv (x :: r))(hown:OwnAt w 3 1 v' r.length (r.map (Value.int .i64)))(hb:v'.ownBlock=qv.ownBlock):
 TrAt (w.setCell ⟨T,1,none⟩ v') B0 T M l v' r:=by
 refine⟨by rw[heap_setCell_same w T 1 _ _ _ h.st];rfl,h.map_.keep (Below.heap_setCell w _ _ M h.neM.symm) (fun _ _ _ h=>h),hown.setCell (p:=⟨T,1,none⟩) (by rw[hb];exact h.qT) v',h.bT,h.bM,by rw[hb];exact h.bq⟩
theorem aO0{α:Type}{xs:List α}{j:Nat}{y z:α}(h:xs[j]? =some y)(hz:z∈xs.drop j):z=y\/z∈xs.drop (j+1):=by
 obtain⟨hj,he⟩:=zAA.1 h;rw[List.drop_eq_getElem_cons hj,zBF]at hz;rcases hz with hz | hz
 ·exact .inl (hz.trans he)
 ·exact .inr hz
def bCi(w:World)(cs:List (List Int))(given:List Int)(e:Ending)(w':World):Prop:=
 Below w.heap.size w w'/\((e= .returned (.tuple #[.pointer none, .bool false])/\S.aA2 cs given)\/
  ∃T M l qv q,e= .returned (.tuple #[.pointer (some ⟨T,0,none⟩), .bool true])/\TrAt w' w.heap.size T M l qv q/\¬S.aA2 cs given/\∀x,trl l x=true↔S.Der cs given x)
theorem aQq(w0:World)(B0 Bk Mw:Nat)(cv:Value)(us:List Value)(cs:List (List Int))(lw:List (Int×List Int))(blk:Int->Option Nat)(N n:Nat)(A:Option Addr)(m d:Nat)(given:List Int)(w:World)
 (h:BkAt9 w w0 B0 Bk Mw cv us cs lw blk N) (hidx:Idx cs lw) (hb0:Below w0.heap.size w0 w) (hA:SlAt (IntR .i64) w A m given) (hg:S.isClause n given=true) (hc:cs.all (S.isClause n)=true) (hn:n<=4000):
 Calls prog 139 #[.pointer (some ⟨Bk,0,none⟩), .slice A m d] w (bCi w cs given):=by
 have hl:=hA.le;have HA:=kH hA;clear hA;have H:=kH h;clear h;have HC:=kH hc;clear hc;have HG:=kH hg;clear hg;have HI:=kH hidx;clear hidx;have HB0:=kH hb0;clear hb0;have HS:=kH (TrAt.start w);have HB:=kH (show Below w.heap.size w ((w.alloc (.map #[] 0)).alloc (.cells #[.map (some w.heap.size), .slice none 0 0] 207))from(al0).alloc (by simp) _);have hmk:=fun W=>aFo (P:=prog) underlying205 W
 have hmf:∀(fn:Fn) (first cap:Array Value) (w:World),(Instr.makeFunc fn first cap).run prog w= .ok (.func fn first cap) w:=fun _ _ _ _=>rfl
 go_enter func139,ntmps139
 go_wp2;clear hmk hmf
 go_loopg [22] (m+1) (fun g i wr=>∃(k:Nat) (l:List (Int×Bool)) (qv:Value) (q:List Int),k<=m/\i= .int .i64 (k:Int)/\g+k=m+1/\TrAt wr w.heap.size (w.heap.size+1) w.heap.size l qv q/\S.Known cs given n k l q/\Below w.heap.size w wr)
 case atStart=>exact⟨0, [],_, [],zBL _,rfl,rfl,HS.out,S.aTf cs given n,HB.out⟩
 case round=>
  obtain⟨k,l,qv,q,hk,rfl,hgk,htr,hkn,hbw⟩:=hrel;have Hgk:=kH hgk;clear hgk;have Htr:=kH htr;clear htr;have Hkn:=kH hkn;clear hkn
  by_cases hlt:k<m
  ·obtain⟨x,b,off,u,hx,rfl,_,h1,rfl⟩:=(HA.out.below (aAd _) hbw).at_ hlt;obtain⟨hx1,hx2,hx3⟩:=aF2 ⟨by omega,by omega⟩ (aHf HG.out hx);have con:=aPa w.heap.size (w.heap.size+1) w.heap.size l qv q x wr Htr.out (by omega) (by have:=Hkn.out.mass;omega);have Hcon:=kH con;clear con hx3;have Hx:=kH hx;clear hx
   go_wp2_with fail
   refine Hcon.out.mono ?_;rintro e w1 ⟨l',qv',q',rfl,htr1,hb1,hpost⟩;have Htr1:=kH htr1;clear htr1;have hpost':=Hkn.out.take HG.out Hx.out hpost;clear hpost;rcases hpost' with⟨ht,hinc⟩ |⟨ht,hkn1⟩
   ·rw[ht];have Hinc:=kH hinc;clear hinc ht;go_wp2;go_ret2;exact⟨hbw.trans hb1, .inl ⟨rfl,Hinc.out⟩⟩
   ·rw[ht];have Hkn1:=kH hkn1;clear hkn1 ht;go_wp2
    go_roundg (gk-1)
    case measure=>have:=Hgk.out;omega
    case rel=>have:=Hgk.out;exact⟨k+1,l',qv',q',by omega,by go_num,by omega,Htr1.out,Hkn1.out,hbw.trans hb1⟩
  ·obtain rfl:k=m:=by omega
   clear Hgk HS HB;have hbk:=(H.out.below hbw);obtain⟨AC,cc,hcv,hcl⟩:=hbk.clauses (HB0.out.trans (hbw.mono HB0.out.size));subst hcv;have hc0:=hbk.c0;clear hbk hcl;go_wp2
   go_loopg [36] (cs.length+1) (fun g i wr=>∃(j:Nat) (l:List (Int×Bool)) (qv:Value) (q:List Int),j<=cs.length/\i= .int .i64 (j:Int)/\g+j=cs.length+1/\TrAt wr w.heap.size (w.heap.size+1) w.heap.size l qv q/\S.Known cs given n k l q/\Below w.heap.size w wr/\∀c∈cs.take j,S.Waits (trl l) q c)
   case atStart=>exact⟨0,l,qv,q,zBL _,rfl,rfl,Htr.out,Hkn.out,hbw,fun c hc=>by simp at hc⟩
   case round=>
    clear hbw hc0 Htr Hkn;obtain⟨j,l,qv,q,hj,rfl,hgk,htr,hkn,hbw,hwt⟩:=hrel;have Hgk:=kH hgk;clear hgk;have Htr:=kH htr;clear htr;have Hkn:=kH hkn;clear hkn;have Hwt:=kH hwt;clear hwt;have hbk:=(H.out.below hbw);obtain⟨AC',cc',hcv,hcl⟩:=hbk.clauses (HB0.out.trans (hbw.mono HB0.out.size));injection hcv with e1 _ e2
    subst e1 e2;have hc0:=hbk.c0;have hlenc:=hcl.le;clear hbk
    by_cases hlt2:j<cs.length
    ·obtain⟨c,b,off,u,hx,rfl,_,h1,A1,c1,rfl,s1⟩:=hcl.at_ hlt2;have hcm:=zAC hx;have con:=aPb w.heap.size (w.heap.size+1) w.heap.size l qv q n A1 c.length c1 c wr Htr.out s1 (zAD.1 HC.out c hcm) hn (by have:=Hkn.out.mass;omega);have Hcon:=kH con;clear con s1 hcl;have Hx:=kH hx;clear hx;have Hcm:=kH hcm;clear hcm
     go_wp2_with fail
     refine Hcon.out.mono ?_;rintro e w1 ⟨bb,l',qv',q',rfl,htr1,hb1,hpost⟩;have Htr1:=kH htr1;clear htr1;have hpost':=Hkn.out.look Hcm.out (zAD.1 HC.out c Hcm.out) hpost;clear hpost;rcases hpost' with⟨rfl,hinc⟩ |⟨rfl,hkn1,hfine,hw1,_⟩
     ·have Hinc:=kH hinc;clear hinc;go_wp2;go_ret2;exact⟨hbw.trans hb1, .inl ⟨rfl,Hinc.out⟩⟩
     ·have Hkn1:=kH hkn1;clear hkn1;have Hfine:=kH hfine;clear hfine;have Hw1:=kH hw1;clear hw1;go_wp2
      go_roundg (gk-1)
      case measure=>have:=Hgk.out;omega
      case rel=>
       have:=Hgk.out;refine⟨j+1,l',qv',q',by omega,by go_num,by omega,Htr1.out,Hkn1.out,hbw.trans hb1,fun c' hc'=>?_⟩;rw[aBc Hx.out]at hc';rcases zBE.1 hc' with hc' | hc'
       ·exact Hw1.out _ (Hwt.out c' hc')
       ·rw[zBD.1 hc'];exact .inl Hfine.out
    ·have hwt:=Hwt.out;rw[aB0 rfl (by omega)]at hwt;have Hwt':=kH hwt;clear hwt Hwt Hgk hcl;clear hc0;go_wp2
     go_loopg [] (2*n+1) (fun g wr=>∃(l:List (Int×Bool)) (qv:Value) (q:List Int),q.length+S.open_ n (trl l)+1<=g/\TrAt wr w.heap.size (w.heap.size+1) w.heap.size l qv q/\S.Known cs given n k l q/\Below w.heap.size w wr/\∀c∈cs,S.Waits (trl l) q c)
     case atStart=>exact⟨l,qv,q,by have:=Hkn.out.mass;omega,Htr.out,Hkn.out,hbw,Hwt'.out⟩
     case round=>
      clear hbw Htr Hkn Hwt';obtain⟨l,qv,q,hgk,htr,hkn,hbw,hwt⟩:=hrel;have Hgk:=kH hgk;clear hgk;have Hkn:=kH hkn;clear hkn;have Hwt:=kH hwt;clear hwt;obtain⟨AQ,cQ,hqv⟩:=htr.own.form;subst hqv;have ht1:=htr.c1;have htf:=htr.f1;cases q with
      | nil=>
       have Htr:=kH htr;clear htr;go_wp2;go_ret2;have hk:given.take k=given:=aB0 HA.out.len (zBJ _);have hf:=Hkn.out.inv.fin (fun y hy=>Hkn.out.giv y (by rw[hk];exact hy)) Hwt.out;exact⟨hbw, .inr ⟨_,_,l,_, [],rfl,Htr.out,hf.1,hf.2⟩⟩
      | cons x r=>
       have hx:=Hkn.out.lits_ x (List.mem_cons_self ..);obtain⟨hx1,hx2,hx3⟩:=aF2 ⟨by omega,by omega⟩ hx;clear hx hx3;have hsl:=htr.own.slInts;obtain⟨x',b,off,u,hx',hAQ,_,h1,hu⟩:=hsl.at_ (k:=0) (by simp);subst hAQ;subst hu;obtain rfl:x=x':=by simpa using hx'
       clear hx' hsl;rw[zBI]at h1;have hlq:((x :: r).length:Int)=(r.length:Int)+1:=by simp
       have hlr:(x :: r).length=r.length+1:=by simp
       have hlm:r.length<=10000:=by have:=Hkn.out.mass;simp at this;omega
       have Htr:=kH htr;clear htr;have hTw:w.heap.size<=w.heap.size+1:=by omega
       obtain⟨L,hL⟩:∃L,L=r.length:=⟨_,rfl⟩;have hL':(x :: r).length=L+1:=by rw[hL,hlr]
       have hlm':L<=10000:=by omega
       obtain⟨uL,hlook,hown,_⟩:=H.out.look (x:= -x) (by omega);obtain⟨AU,cU,hu⟩:=hown.form;subst hu;have HLook:=kH hlook;clear hlook;obtain⟨LL,hLL⟩:∃LL,LL=(gl lw (-x)).length:=⟨_,rfl⟩;rw[<-hLL]at hown HLook;have hllm:=hown.le;have Hown:=kH hown;clear hown;have HLL:=kH hLL;clear hLL
       go_wp2_with ((refine aLk _ rfl (.tmp 61) (.const (.int .i64 1)) 37 rfl 3 (.int .i64 0) 8 underlying37 Tryz.infoInt _ (x :: r).length _ rfl Htr.out.own .i64 1 1 rfl rfl (by simp) (by simp) ?_;intro v' hown' hob';replace hown':OwnAt wr 3 1 v' r.length (r.map (Value.int .i64)):=(by simpa using hown');have hpop:=Htr.out.pop (v':=v') hown' hob';have hb2:=hbw.setCell (p:=⟨w.heap.size+1,1,none⟩) hTw v';have hbk:=H.out.below hb2;have hc1:=hbk.c1;have Hpop:=kH hpop;have Hb2:=kH hb2;have hlk:=HLook.out _ (hb2.block Mw H.out.map_.lt);obtain⟨AV,cV,hv⟩:=hown'.form;subst hv;clear hpop hbk hb2 hown' hob'))
       clear hc1 hlk ht1 htf h1;obtain⟨gO,rfl⟩:∃g,g=gk:=⟨_,rfl⟩
       go_loopg [73] (LL+1) (fun g i wr=>∃(j:Nat) (l:List (Int×Bool)) (qv:Value) (q:List Int),j<=LL/\i= .int .i64 (j:Int)/\g+j=LL+1/\TrAt wr w.heap.size (w.heap.size+1) w.heap.size l qv q/\S.Known cs given n k l q/\Below w.heap.size w wr/\(∀c∈cs,S.Waits (trl l) q c\/∃i∈(gl lw (-x)).drop j,cs[i.toNat]? =some c)/\q.length+S.open_ n (trl l)+2<=gO)
       case atStart=>
        refine⟨0,l,_,r,zBL _,rfl,rfl,Hpop.out,⟨Hkn.out.inv,Hkn.out.giv,by have:=Hkn.out.mass;simp at this;omega,fun y hy=>Hkn.out.lits_ y (zAQ _ hy)⟩,Hb2.out,fun c hc=>?_,by have:=Hgk.out;simp at this;omega⟩;rcases(Hwt.out c hc).pop with h | h
        ·exact .inl h
        ·obtain⟨i,hi⟩:=zAG hc;exact .inr ⟨i,by simpa using HI.out.1 (-x) i c hi h,by simpa using hi⟩
       case round=>
        clear Hwt Hkn Hpop Hb2 hbw Htr;obtain⟨j4,l,qv,q,hj4,rfl,hgk4,htr,hkn,hbw,hwt,hms⟩:=hrel;have Hgk4:=kH hgk4;clear hgk4;have Htr:=kH htr;clear htr;have Hkn:=kH hkn;clear hkn;have Hwt:=kH hwt;clear hwt;have Hms:=kH hms;clear hms
        by_cases hlt4:j4<LL
        ·have hsu:=(Hown.out.below hbw Hown.out.lt).slInts;obtain⟨i,bi,offi,ui,hxi,rfl,_,hi1,rfl⟩:=hsu.at_ hlt4;clear hsu;obtain⟨hi0,hi2⟩:=HI.out.2 (-x) i (zAC hxi);obtain⟨iN,rfl⟩:∃iN:Nat,i=(iN:Int):=⟨i.toNat,by omega⟩;have Hxi:=kH hxi;clear hxi;have hbk:=(H.out.below hbw);obtain⟨AC2,cc2,hcv,hcl⟩:=hbk.clauses (HB0.out.trans (hbw.mono HB0.out.size));injection hcv with e1 _ e2
         subst e1 e2;have hc0:=hbk.c0;have hlenc:=hcl.le;clear hbk;obtain⟨c,b3,off3,u3,hx3,hAA3,_,h13,A1,c1,rfl,s1⟩:=hcl.at_ (k:=iN) (by omega);subst hAA3;clear hcl;have hcm:=zAC hx3;have con:=aPb w.heap.size (w.heap.size+1) w.heap.size l qv q n A1 c.length c1 c wr Htr.out s1 (zAD.1 HC.out c hcm) hn (by have:=Hkn.out.mass;omega);have Hcon:=kH con;clear con s1;have Hx3:=kH hx3;clear hx3;have Hcm:=kH hcm;clear hcm
         go_wp2_with fail
         refine Hcon.out.mono ?_;rintro e w1 ⟨bb,l',qv',q',rfl,htr1,hb1,hpost⟩;have Htr1:=kH htr1;clear htr1;have hpost':=Hkn.out.look Hcm.out (zAD.1 HC.out c Hcm.out) hpost;clear hpost;rcases hpost' with⟨rfl,hinc⟩ |⟨rfl,hkn1,hfine,hw1,hm1⟩
         ·have Hinc:=kH hinc;clear hinc;go_wp2;go_ret2;exact⟨hbw.trans hb1, .inl ⟨rfl,Hinc.out⟩⟩
         ·have Hkn1:=kH hkn1;clear hkn1;have Hfine:=kH hfine;clear hfine;have Hw1:=kH hw1;clear hw1;have Hm1:=kH hm1;clear hm1;go_wp2
          go_roundg (gk-1)
          case measure=>have:=Hgk4.out;omega
          case rel=>
           have:=Hgk4.out;refine⟨j4+1,l',qv',q',by omega,by go_num,by omega,Htr1.out,Hkn1.out,hbw.trans hb1,fun c' hc'=>?_,by have:=Hms.out;have:=Hm1.out;omega⟩;rcases Hwt.out c' hc' with h |⟨i',hi',hce⟩
           ·exact .inl (Hw1.out _ h)
           ·rcases aO0 Hxi.out hi' with rfl | h
            ·have e3:=Hx3.out;rw[zBA,e3]at hce;injection hce with hce
             subst hce;exact .inl (.inl Hfine.out)
            ·exact .inr ⟨i',h,hce⟩
        ·go_wp2
         go_roundg (gO-1)
         case measure=>have:=Hms.out;omega
         case rel=>
          refine⟨l,qv,q,by have:=Hms.out;omega,Htr.out,Hkn.out,hbw,fun c hc=>?_⟩;rcases Hwt.out c hc with h |⟨i',hi',_⟩
          ·exact h
          ·rw[List.drop_of_length_le (by have:=HLL.out;omega)]at hi';cases hi'
theorem aMt(w0:World)(B0 Bk Mw:Nat)(cv:Value)(us:List Value)(cs:List (List Int))(lw:List (Int×List Int))(blk:Int->Option Nat)(N n:Nat)(A:Option Addr)(m d:Nat)(c:List Int)(w:World)
 (h:BkAt9 w w0 B0 Bk Mw cv us cs lw blk N) (hidx:Idx cs lw) (hb0:Below w0.heap.size w0 w) (hA:SlAt (IntR .i64) w A m c) (hg:S.isClause n c=true) (hc:cs.all (S.isClause n)=true) (hn:n<=4000) (hm:m<=100000000):
 Calls prog 107 #[.pointer (some ⟨Bk,0,none⟩), .slice A m d] w fun e w'=>e= .returned (.bool (S.fol cs c))/\Below w.heap.size w w':=by
 have Hcon1:=kH (aTg n A m d c w hA hg hn hm);have H:=kH h;clear h;have HI:=kH hidx;clear hidx;have HB0:=kH hb0;clear hb0;have HG:=kH hg;clear hg;have HC:=kH hc;clear hc hA
 go_enter func107,ntmps107
 go_wp2_with fail
 refine Hcon1.out.mono ?_;rintro e w1 ⟨A',d',rfl,hA',hb1⟩;have Hcon2:=kH (aQq w0 B0 Bk Mw cv us cs lw blk N n A' m d' (S.negs c) w1 (H.out.below hb1) HI.out (HB0.out.trans (hb1.mono HB0.out.size)) hA' (S.aJm HG.out) HC.out hn);clear hA'
 go_wp2_with fail
 refine Hcon2.out.mono ?_;rintro e w2 ⟨hb2,⟨rfl,hinc⟩ |⟨T,M,l,qv,q,rfl,_,hinc,_⟩⟩
 ·have hf:=S.aEi.2 hinc;have Hf:=kH hf;clear hf hinc;go_wp2;go_ret;exact⟨aA5 Hf.out.symm,hb1.trans (hb2.mono hb1.size)⟩
 ·have hf:S.fol cs c=false:=by
   cases hf:S.fol cs c
   ·rfl
   ·exact absurd (S.aEi.1 hf) hinc
  have Hf:=kH hf;clear hf hinc;go_wp2;go_ret;exact⟨aA5 Hf.out.symm,hb1.trans (hb2.mono hb1.size)⟩
theorem aN4(a b:List (List Int)):tot (a ++ b)=tot a+tot b:=by unfold tot;rw[zBS,List.sum_append]
noncomputable def S.failInt(cs l:List (List Int)):Int:=match S.aBg cs l with | none=> -1 | some k=>k
theorem aUn(n:Nat)(A D:Option Addr)(m c p d:Nat)(cs l:List (List Int))(w:World)(hA:SlAt (SlR (IntR .i64)) w A m cs)(hD:SlAt (SlR (IntR .i64)) w D p l)(hcs:cs.all (S.isClause n)=true)(hl:l.all (S.isClause n)=true)(hn:n<=4000)
 (hm:m<=40000) (hp:p<=40000) (ht:tot cs<=20000000) (htl:tot l<=20000000):
 Calls prog 62 #[.slice A m c, .slice D p d] w fun e w'=>e= .returned (.int .i64 (S.failInt cs l))/\Below w.heap.size w w':=by
 have Hcon:=kH (bAx n A m c cs w hA hcs hn ht (by omega));have hmc:=hA.len;have HD:=kH hD;clear hD hA;have HC:=kH hcs;clear hcs;have HL:=kH hl;clear hl;have Hmc:=kH hmc;clear hmc;have Ht:=kH ht;clear ht;have Htl:=kH htl;clear htl
 go_enter func62,ntmps62
 go_wp2_with fail
 refine Hcon.out.mono ?_;rintro e w1 ⟨Bk,Mw,cv,us,lw,blk,rfl,hbk,hidx,hbw⟩;have Hbk0:=kH hbk;clear hbk;have HI0:=kH hidx;clear hidx;go_wp2
 go_loopg [12] (p+1) (fun g i wr=>∃(k:Nat) (cv:Value) (us:List Value) (lw:List (Int×List Int)) (blk:Int->Option Nat),k<=p/\i= .int .i64 (k:Int)/\g+k=p+1/\BkAt9 wr w w.heap.size Bk Mw cv us (cs ++ l.take k) lw blk (tot (cs ++ l.take k))/\Idx (cs ++ l.take k) lw/\Below w.heap.size w wr/\S.bad cs l=(S.bad (cs ++ l.take k) (l.drop k)).map (· + k))
 case atStart=>exact⟨0,cv,us,lw,blk,zBL _,rfl,rfl,by simpa using Hbk0.out,by simpa using HI0.out,hbw,by simp⟩
 case round=>
  clear Hbk0 HI0 hbw;obtain⟨k,cv,us,lw,blk,hk,rfl,hgk,hbk,hidx,hbw,hbad⟩:=hrel;have Hgk:=kH hgk;clear hgk;have Hbk:=kH hbk;clear hbk;have HI:=kH hidx;clear hidx;have Hbad:=kH hbad;clear hbad
  by_cases hlt:k<p
  ·obtain⟨x,b,off,u,hx,rfl,hlb,h10,A1,c1,rfl,s10⟩:=HD.out.at_ hlt;have h1:=(hbw.cell (p:=⟨b,off+k,none⟩) hlb).trans h10;have s1:=s10.below (aAd _) hbw;have hxm:=zAC hx;have hall:(cs ++ l.take k).all (S.isClause n)=true:=by
    rw[List.all_append,HC.out,Bool.true_and,zAD];intro y hy;exact zAD.1 HL.out y (List.mem_of_mem_take hy)
   have hxc:=zAD.1 HL.out x hxm;have hxl:=aJo hxm;have con:=aMt w w.heap.size Bk Mw cv us (cs ++ l.take k) lw blk (tot (cs ++ l.take k)) n A1 x.length c1 x wr Hbk.out HI.out hbw s1 hxc hall hn (by have:=Htl.out;omega);have Hx:=kH hx;clear hx;have Hs10:=kH s10;clear s10 h10 s1;cases hf:S.fol (cs ++ l.take k) x
   ·rw[hf]at con;have Hcon:=kH con;clear con;have Hf:=kH hf;clear hf;clear hall hxm hxl hxc
    go_wp2_with fail
    refine Hcon.out.mono ?_;rintro e w' ⟨rfl,hb2⟩;go_wp2;go_ret;refine⟨aBb ?_,hbw.trans (hb2.mono hbw.size)⟩;rw[S.failInt,S.aBg,S.aQ5 Hbad.out Hx.out Hf.out]
   ·rw[hf]at con;have Hcon:=kH con;clear con;have Hf:=kH hf;clear hf;have Hxc:=kH hxc;clear hxc hall;have Hxm:=kH hxm;clear hxm hxl
    go_wp2_with fail
    refine Hcon.out.mono ?_;rintro e w2 ⟨rfl,hb2⟩;have hbw2:=hbw.trans (hb2.mono hbw.size);have hlk:(l.take k).length<=k:=List.length_take_le k l;have hcon3:=aPd w w.heap.size Bk Mw cv us (cs ++ l.take k) lw blk (tot (cs ++ l.take k)) n A1 x.length c1 x w2 (Hbk.out.below hb2) HI.out (Hs10.out.below (aAd _) hbw2) Hs10.out (zBJ _) Hxc.out hn
     (by have h1:=aLo l k;have h2:=aJo Hxm.out;have:=Ht.out;have:=Htl.out;rw[aN4];omega) (by have:=Hmc.out;rw[zAX];omega)
    have Hcon3:=kH hcon3;clear hcon3 hlk h1
    go_wp2_with fail
    refine Hcon3.out.mono ?_;rintro e w3 ⟨cv',lw',blk',rfl,hbk3,hidx3,hb3⟩;have Hbk3:=kH hbk3;clear hbk3;have HI3:=kH hidx3;clear hidx3;go_wp2
    go_roundg (gk-1)
    case measure=>have:=Hgk.out;omega
    case rel=>
     have:=Hgk.out;have e1:cs ++ l.take (k+1)=(cs ++ l.take k)++ [x]:=by rw[aBc Hx.out,zBT]
     have e2:tot (cs ++ l.take (k+1))=tot (cs ++ l.take k)+x.length:=by rw[e1,aN4];simp[tot]
     refine⟨k+1,cv',us ++ [.slice A1 x.length c1],lw',blk',by omega,by go_num,by omega,by rw[e2,e1];exact Hbk3.out,by rw[e1];exact HI3.out,hbw2.trans hb3,S.aQ4 Hbad.out Hx.out Hf.out⟩
  ·obtain rfl:k=p:=by omega
   have hnone:=S.aUz Hbad.out (by rw[HD.out.len];omega);have hlen:=HD.out.len;have Hnone:=kH hnone;clear hnone
   by_cases h0:k=0
   ·subst h0;have Hlen:=kH hlen;clear hlen;go_wp2;go_ret;refine⟨aBb ?_,hbw⟩;obtain rfl:=List.length_eq_zero_iff.1 Hlen.out;rw[S.failInt,S.aBg,Hnone.out];rfl
   ·obtain⟨x,b,off,u,hx,rfl,hlb,h10,A1,c1,rfl,s10⟩:=HD.out.at_ (k:=k-1) (by omega);have h1:=(hbw.cell (p:=⟨b,off+(k-1),none⟩) hlb).trans h10;have hlast:l.getLast? =some x:=by rw[List.getLast?_eq_getElem?,hlen];exact hx
    obtain⟨k',rfl⟩:∃k',k=k'+1:=⟨k-1,by omega⟩;rw[Nat.add_sub_cancel]at h1;clear s10 h10 hx
    by_cases hx0:x.length=0
    ·obtain rfl:=List.length_eq_zero_iff.1 hx0;have Hlast:=kH hlast;clear hlast hlen;go_wp2;go_ret;refine⟨aBb ?_,hbw⟩;rw[S.failInt,S.aBg,Hnone.out];simp[Hlast.out]
    ·have Hlast:=kH hlast;clear hlast;have Hlen:=kH hlen;clear hlen;go_wp2;go_ret;refine⟨aBb ?_,hbw⟩;have hne:l.getLast?≠some []:=by rw[Hlast.out];intro h;injection h with h;exact hx0 (by rw[h];rfl)
     rw[S.failInt,S.aBg,Hnone.out];simp[hne,Hlen.out]
theorem aXr(n:Int)(A D:Option Addr)(m c p d:Nat)(cs l:List (List Int))(w:World)(hA:SlAt (SlR (IntR .i64)) w A m cs)(hD:SlAt (SlR (IntR .i64)) w D p l)(ht:tot cs<=20000000)(htl:tot l<=20000000):
 Calls prog 37 #[.int .i64 n, .slice A m c, .slice D p d] w (aQ6 w (S.check n cs l)):=by
 have Hcon:=kH (aHh n A m c cs w hA);have HA:=kH hA;clear hA;have HD:=kH hD;clear hD
 by_cases h0:S.aAe n cs=0
 ·rw[h0]at Hcon
  by_cases h2:S.aAe n l=0
  ·obtain⟨hn0,hn4,hm,hc1⟩:=aDo h0;obtain⟨_,_,hp,hc2⟩:=aDo h2;obtain⟨N,rfl⟩:∃N:Nat,n=N:=⟨n.toNat,by omega⟩;have hlen:=HD.out.len;have hle:=HD.out.le;obtain⟨r,hr⟩:∃r,r=S.failInt cs l:=⟨_,rfl⟩;have e1:(r= -1/\S.check (N:Int) cs l=((p:Int),0))\/(0<=r/\S.check (N:Int) cs l=(r,8)):=by
    unfold S.failInt at hr;unfold S.check;rw[if_neg (by simp[h0]),if_neg (by simp[h2])];cases hf:S.aBg cs l with
    | none=>rw[hf]at hr;exact .inl ⟨hr,by rw[hlen]⟩
    | some k=>rw[hf]at hr;exact .inr ⟨by rw[hr];exact Int.natCast_nonneg k,by rw[hr]⟩
   have Hcon3:Hid (∀w2,Below w.heap.size w w2->Calls prog 62 #[.slice A m c, .slice D p d] w2 fun e w'=>e= .returned (.int .i64 r)/\Below w2.heap.size w2 w'):=
    kH fun w2 hb2=>by rw[hr];exact aUn N A D m c p d cs l w2 (HA.out.below (aC9 (aAd _)) hb2) (HD.out.below (aC9 (aAd _)) hb2) hc1 hc2 (by omega) (by rw[<-HA.out.len];omega) (by rw[<-HD.out.len];omega) ht htl
   have Hcon2:Hid (∀w1,Below w.heap.size w w1->Calls prog 61 #[.int .i64 N, .slice D p d] w1 fun e w'=>e= .returned (.int .i64 0)/\Below w1.heap.size w1 w'):=
    kH fun w1 hb1=>by have:=aHh (N:Int) D p d l w1 (HD.out.below (aC9 (aAd _)) hb1);rwa [h2]at this
   clear hc1 hc2 h0 h2 hr hlen;rcases e1 with⟨rfl,e1⟩ |⟨hr0,e1⟩
   all_goals
    rw[e1];clear e1
    go_enter func37,ntmps37
    go_wp2_with fail
    refine Hcon.out.mono ?_;rintro e w1 ⟨rfl,hb1⟩;have Hb1:=kH hb1;clear hb1
    go_wp2_with fail
    refine(Hcon2.out w1 Hb1.out).mono ?_;rintro e w2 ⟨rfl,hb2⟩;have Hb2:=kH (Hb1.out.trans (hb2.mono Hb1.out.size));clear hb2
    go_wp2_with fail
    refine(Hcon3.out w2 Hb2.out).mono ?_;rintro e w3 ⟨rfl,hb3⟩;have Hb3:=kH (Hb2.out.trans (hb3.mono Hb2.out.size));clear hb3;go_wp2;go_ret2;exact⟨rfl,Hb3.out⟩
  ·obtain⟨v,hv⟩:∃v,v=S.aAe n l:=⟨_,rfl⟩;rw[<-hv]at h2;have hb:(v != 0)=true:=by simpa using h2
   have e1:S.check n cs l=(0,v):=by rw[S.check,if_neg (by rw[h0];simp),if_pos (by rw[<-hv];exact h2),hv]
   rw[e1]
   go_enter func37,ntmps37
   go_wp2_with fail
   refine Hcon.out.mono ?_;rintro e w1 ⟨rfl,hb1⟩;have Hcon2:=kH (aHh n D p d l w1 (HD.out.below (aC9 (aAd _)) hb1));rw[<-hv]at Hcon2;clear hv h2 h0 e1
   go_wp2_with fail
   refine Hcon2.out.mono ?_;rintro e w2 ⟨rfl,hb2'⟩;go_wp2;go_ret2;exact⟨rfl,hb1.trans (hb2'.mono hb1.size)⟩
 ·obtain⟨v,hv⟩:∃v,v=S.aAe n cs:=⟨_,rfl⟩;rw[<-hv]at Hcon h0;have hb:(v != 0)=true:=by simpa using h0
  have e1:S.check n cs l=(0,v):=by rw[S.check,if_pos (by rw[<-hv];exact h0),hv]
  rw[e1];clear hv h0 e1
  go_enter func37,ntmps37
  go_wp2_with fail
  refine Hcon.out.mono ?_;rintro e w1 ⟨rfl,hb1⟩;go_wp2;go_ret2;exact⟨rfl,hb1⟩
end
end Go.Proofs.YtchdbhggbdcapaaGreat
