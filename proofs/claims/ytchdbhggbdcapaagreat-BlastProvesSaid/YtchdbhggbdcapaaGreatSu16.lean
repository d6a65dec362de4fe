/- Part. -/
import Derived.Test.YtchdbhggbdcapaaGreatSuLX
import Derived.Test.YtchdbhggbdcapaaGreatSu14
set_option linter.unusedVariables false
set_option linter.unusedSimpArgs false
set_option maxRecDepth 100000
set_option maxHeartbeats 16000000
namespace Go.Proofs.YtchdbhggbdcapaaGreat
open _root_.Go.Proofs.Tryz
section
open Go.RowKit Go.MapKept Go.Maps Go.WideMaps
def NPost(w:World)(l:List Int)(e:Ending)(w':World):Prop:=
 ∃A cap,e= .returned (.slice A l.length cap)/\Below w.heap.size w w'/\OwnAt w' 3 1 (.slice A l.length cap) l.length (siv l)/\∀g,(Value.slice A l.length cap).ownBlock=some g->w.heap.size<=g
structure NSt(W:World)(l:List Int)(v:Value)(w':World):Prop where
 bl:Below W.heap.size W w'
 own:OwnAt w' 3 1 v l.length (siv l)
 new:∀g,v.ownBlock=some g->W.heap.size<=g
theorem NSt.app{W:World}{l:List Int}{v:Value}{w1:World}(h:NSt W l v w1){a:Int}{v':Value}{w2:World}{o:Obj}
 (hown:OwnAt w2 3 1 v' (l.length+1) (siv l ++ [.int .i64 a])) (hgr:(w1.alloc o).grownBy w2 v.ownBlock) (hat:v'.ownBlock=v.ownBlock\/v'.ownBlock=some (w1.heap.size+1)):NSt W (l ++ [a]) v' w2:=by
 refine⟨(h.bl.alloc h.bl.size o).grown hgr (by have:=h.bl.size;simp;omega) h.new,?_,fun g hg=>?_⟩
 ·rw[zAX,aEl];exact hown
 ·rcases hat with e | e
  ·rw[e]at hg;exact h.new g hg
  ·rw[e]at hg;obtain rfl:=zAH hg;have:=h.bl.size;omega
theorem NPost.wd{w w':World}{B0 Bb Mb:Nat}{tg:TgF}{vc:Value}{b:C.Bd}(h:BAt w B0 Bb Mb tg vc b){A:Option Addr}{cap:Nat}{l:List Int}(h2:OwnAt w' 3 1 (.slice A l.length cap) l.length (siv l))(h3:∀g,(Value.slice A l.length cap).ownBlock=some g->w.heap.size<=g):WdAt w' tg A cap l:=
 ⟨h2,fun g hg=>h.none_ (h3 g hg)⟩
def notTo(x:List Int)(k:Nat):List Int:=(x.take k).map fun l=> -l
theorem aW7{x:List Int}{k:Nat}(h:k<x.length):notTo x (k+1)=notTo x k ++ [-(x.getD k 0)]:=by
 unfold notTo;rw[List.take_add_one,zAB h,zBS]
 congr 1
 simp[List.getD,zAB h]
theorem aPs{x:List Int}{k:Nat}(h:k<=x.length):(notTo x k).length=k:=by simp[notTo];omega
theorem aZa{x:List Int}:notTo x x.length=C.notw x:=by unfold notTo C.notw;rw[List.take_length]
theorem aI2{w:World}{A:Option Addr}{c:Nat}{x:List Int}(hx:OwnAt w 3 1 (.slice A x.length c) x.length (siv x))(hxb:C.Wb x)(hm:x.length<=100000):
 Calls prog 153 #[.slice A x.length c] w (NPost w (C.notw x)):=by
 obtain⟨m,hxl⟩:∃m,x.length=m:=⟨_,rfl⟩;have Hx:=kH hx;have Hxb:=kH hxb;have Hl:=kH hxl;have H0:=kH (show NSt w (notTo x 0) (.slice none 0 0) w from⟨Below.refl _ _,⟨by simp[notTo,siv], .inl ⟨rfl,rfl⟩⟩,fun g hg=>by cases hg⟩);have He:=kH (show C.notw x=notTo x m from by rw[<-hxl,aZa]);rw[hxl];rw[hxl]at hm;clear hx hxb hxl
 go_enter func153,ntmps153
 go_wp2
 go_loopw [3,8] (fun v i wr=>∃k:Nat,k<=m/\i= .int .i64 (k:Int)/\∃A cap,v= .slice A k cap/\Hid (NSt w (notTo x k) v wr)) (fun _ i _=>m- (intOf i).toNat)
 case atStart=>exact⟨0,zBL _,rfl,none,0,rfl,H0⟩
 case round=>
  obtain⟨k,hk,rfl,A',cap,rfl,HS⟩:=hrel
  by_cases hlt:k<m
  ·have hkx:k<x.length:=by rw[Hl.out];exact hlt
   have hX:OwnAt wr 3 1 (.slice A x.length c) x.length (siv x):=Hx.out.below HS.out.bl Hx.out.lt;obtain⟨g1,o1,c1,q1,e1,_⟩:=aAg hX (aBx hkx);injection q1 with q1 _ q2
   subst q1;obtain⟨xk,hxk⟩:∃v,x.getD k 0=v:=⟨_,rfl⟩;have hb:C.Ib xk:=by rw[<-hxk];exact wb_at Hxb.out hkx
   have hst:=aW7 hkx;rw[hxk]at e1 hst;unfold C.Ib at hb;have Hst:=kH hst;have Hnl:=kH (aPs (k:=k) (Nat.le_of_lt hkx));have hown:OwnAt wr 3 1 (.slice A' k cap) k (siv (notTo x k)):=by have h0:=HS.out.own;rw[Hnl.out]at h0;exact h0
   have Hown:=kH hown;clear hX hxk hst hkx q2 hown
   go_wp2_with (first | fail |(at_builtin;refine aAk _ rfl (.tmp 12) (.tmp 15) 69 rfl 3 (.int .i64 0) 8 underlying69 Tryz.sinfoInt rfl _ k (siv (notTo x k)) rfl Hown.out (.int .i64 (-xk)) rfl _ rfl (by omega) (by omega) ?_;intro v4 w4 hown' hgr hat;obtain⟨Av,cv,hv⟩:=hown'.form;subst hv;have Hq:=kH (HS.out.app (a:= -xk) (by rw[Hnl.out];exact hown') hgr hat);clear hown' hgr hat))
   go_roundw
   case rel=>exact⟨k+1,by omega,by go_num,Av,cv,rfl,by rw[Hst.out];exact Hq⟩
   case measure=>simp[intOf];omega
  ·have hkm:k=m:=by omega
   subst hkm;go_wp2;go_ret;have hn:(notTo x k).length=k:=aPs (by rw[Hl.out];exact zBJ _);rw[He.out];refine⟨A',cap,by rw[hn];rfl,HS.out.bl,?_,?_⟩
   ·have h0:=HS.out.own;rw[hn]at h0⊢;exact h0
   ·rw[hn];exact HS.out.new
theorem aD8{w:World}{x:Int}{n:Nat}(h1:1<=n)(h2:n<=100000):
 Calls prog 116 #[.int .i64 (n:Int), .int .i64 x] w (NPost w (C.rep n x)):=by
 have HR:=kH (aTz x n h1 h2 w.heap.size (w.alloc (.cells #[.int .i64 x] 3)) (heap_alloc_new w _));have hl:(C.rep n x).length=n:=by simp[C.rep]
 have Hl:=kH hl;clear h1 hl
 go_enter func116,ntmps116
 go_wp2_with fail
 refine HR.out.mono ?_;rintro e w1 ⟨rfl,k1,k2⟩;have Hk:=kH (And.intro k1 k2);clear k1 k2;go_wp2;go_ret;have hk:=Hk.out;simp only[World.size_alloc]at hk;refine⟨some ⟨w.heap.size+1,0,none⟩,n,?_,(al0).trans (hk.2.mono (by simp)),?_,?_⟩
 ·rw[Hl.out];simp
 ·have hs:(List.replicate n (Value.int .i64 x))=siv (C.rep n x):=by simp[siv,C.rep]
  rw[hs]at hk;have hn:(siv (C.rep n x)).length=n:=by rw[aBu,Hl.out]
  rw[Hl.out];exact⟨by rw[hn];simp, .inr ⟨w.heap.size+1,0,n,(siv (C.rep n x)).toArray,rfl,hk.1,zBJ _,by unfold maxLen;omega,by simp[hn],fun j u hu=>by simpa using hu⟩⟩
 ·intro g hg;have e:w.heap.size+1=g:=by simpa[Value.ownBlock]using hg
  omega
theorem aW8{A:Option Addr}{n c:Nat}{us:List Value}{W:World}(hl:us.length=n*1)(hsrc:∀j u,us[j]? =some u->∃ad:Addr,A=some ad/\W.cell? (ad.add j)=some u)(h1:∀u∈us,u.oneCell'=true)(hlt:∀ad,us≠ []->A=some ad->ad.block<W.heap.size)(hn:n<=900000000):
 Calls prog 44 #[.slice A n c] W (aVp 3 1 W n us):=by
 have q0:=aJs underlying69 A n c W;cases A with
 | none=>
  have hu:us= []:=by
   cases us with
   | nil=>rfl
   | cons u l=>obtain⟨ad,e,_⟩:=hsrc 0 u rfl;cases e
  subst hu;obtain rfl:n=0:=by simp only[List.length_nil]at hl;omega
  rw[show(none:Option Addr).isNone=true from rfl]at q0;clear hsrc h1 hlt hl
  go_enter func44,ntmps44
  go_wp2;go_ret;exact⟨_,rfl,OwnAt.nil_ _ _ _,Below.refl _ _,fun g h=>by simp[Value.ownBlock]at h⟩
 | some a=>
  rw[show(some a:Option Addr).isNone=false from rfl]at q0;have Hsrc:=kH (show∀j u,us[j]? =some u->∃ad:Addr,(some a:Option Addr)=some ad/\(W.alloc (.cells #[] 3)).cell? (ad.add j)=some u from fun j u hu=>by
   obtain⟨ad,e,hc⟩:=hsrc j u hu;cases e;refine⟨a,rfl,?_⟩;have hb:a.block<W.heap.size:=hlt a (fun e=>by rw[e]at hu;simp at hu) rfl;have hbl:(a.add j).block=a.block:=by unfold Addr.add;split <;> rfl
   unfold World.cell? at hc⊢;rw[Below.heap_alloc W _ _ (by rw[hbl];exact hb)];exact hc)
  have H1:=kH h1;have Hl:=kH hl;clear hsrc h1 hlt hl;have hn2:0+n<=1000000000:=by omega
  go_enter func44,ntmps44
  go_wp2_with (at_builtin;refine aBv _ rfl (.tmp 5) (.tmp 6) 69 rfl 3 (.int .i64 0) 1 8 underlying69 Tryz.sinfoInt rfl (by decide) (.slice (some ⟨W.heap.size,0,none⟩) 0 0) 0 [] rfl (aHo W 3 1) (some a) n c us rfl Hl.out Hsrc.out H1.out hn2 (by decide) ?_;intro v' w3 hown' hgr hat;have Hown:=kH hown';have Hgr:=kH hgr;have Hat:=kH hat;clear hown' hgr hat)
  go_ret;have hb:Below W.heap.size W (W.alloc (.cells #[] 3)):=al0;refine⟨v',rfl,?_,hb.grown Hgr.out hb.size (fun g hg=>by simp[Value.ownBlock]at hg;omega),fun g hg=>?_⟩
  ·have:=Hown.out;rw[zBH,List.nil_append]at this;exact this
  ·rcases Hat.out with e | e
   ·rw[e]at hg;simp[Value.ownBlock]at hg;omega
   ·rw[e]at hg;simp at hg;omega
theorem aDl{w:World}{tg:TgF}{A:Option Addr}{c:Nat}{x:List Int}(hx:WdAt w tg A c x)(hm:x.length<=100000):
 Calls prog 44 #[.slice A x.length c] w (NPost w x):=by
 refine(aW8 (A:=A) (n:=x.length) (c:=c) (us:=siv x) (W:=w) (by rw[aBu];omega) (fun j u hj=>?_) (fun u hu=>?_) (fun ad hne had=>?_) (by omega)).mono ?_
 ·obtain⟨g,o,c',e1,e2,_⟩:=aAg hx.1 hj;injection e1 with e1 _ _
  exact⟨_,e1,by rw[show(⟨g,o,none⟩:Addr).add j=⟨g,o+j,none⟩from by simp[Addr.add]];exact e2⟩
 ·obtain⟨y,_,rfl⟩:=zBU.1 hu;rfl
 ·subst had;obtain⟨y,l,hyl⟩:∃y l,x=y :: l:=by
   cases x with
   | nil=>exact absurd rfl hne
   | cons y l=>exact⟨y,l,rfl⟩
  obtain⟨g,o,e1,_⟩:=hx.cell (i:=0) (by rw[hyl];simp);have e2:=zAH e1;rw[e2];exact hx.1.lt g (by rw[e2];rfl)
 ·rintro e w' ⟨v,rfl,k1,k2,k3⟩;obtain⟨A',c',rfl⟩:=k1.form;exact⟨A',c',rfl,k2,k1,k3⟩
section
variable {w w' : World} {B0 Bb Mb : Nat} {tg tg' : TgF} {vc : Value} {b : C.Bd}
theorem aHp(h:BAt w B0 Bb Mb tg vc b){x y:Int}(hx:C.Ib x)(hy:C.Ib y):
 Calls prog 157 #[.pointer (some ⟨Bb,0,none⟩), .int .i64 x, .int .i64 y] w (GPost w B0 Bb Mb tg (C.xor x y b)):=by
 obtain⟨W1,hW1⟩:∃W1,W1=((w.alloc (.cells #[.int .i64 x] 3)).alloc (.cells #[.int .i64 y] 3)):=⟨_,rfl⟩;have hb1:Below w.heap.size w W1:=by rw[hW1];exact(al0).alloc (by simp) _
 have HS:=kH (h.below hb1);have HU:=kH (h.up hb1);have rx:W1.heap[w.heap.size]? =some (.cells #[.int .i64 x] 3 (0,0)):=by rw[hW1];exact aCi (aDf rfl)
 have ry:W1.heap[w.heap.size+1]? =some (.cells #[.int .i64 y] 3 (0,0)):=by rw[hW1];exact aDf (by simp)
 have cx:W1.cell? ⟨w.heap.size,0,none⟩=some (.int .i64 x):=by rw[cell_of_row _ _ _ _ _ (0,0) rx];rfl
 have cy:W1.cell? ⟨w.heap.size+1,0,none⟩=some (.int .i64 y):=by rw[cell_of_row _ _ _ _ _ (0,0) ry];rfl
 have fx:=aCm rx 0;have fy:=aCm ry 0;have hx':=hx;have hy':=hy;unfold C.Ib at hx' hy';have Hib:=kH (And.intro hx hy);have hno:∀x,w.heap.size<=x->tg x=none:=fun x hx=>h.none_ hx
 have Hno:=kH hno;have H2:=kH (fun(p q:Value) (W2:World) (hW:W2=((W1.setCell ⟨w.heap.size,0,none⟩ p).setCell ⟨w.heap.size+1,0,none⟩ q).drew)=>aOs h hb1 rx ry p q hW);have H:=kH h;clear h hb1 rx ry hx hy hno
 by_cases e1:x= -1
 ·have q1:=beq_t e1;have he:C.xor x y b=(y,b):=by unfold C.xor;rw[if_pos e1]
  have He:=kH he;clear e1 he fx fy H2
  go_enter func157,ntmps157
  go_upto_region 1 with fail
  rw[<-hW1];clear hW1;go_wp2;go_ret;rw[He.out];exact⟨rfl,tg,vc,HS.out,HU.out⟩
 have q1:=beq_f e1
 by_cases e2:y= -1
 ·have q2:=beq_t e2;have he:C.xor x y b=(x,b):=by unfold C.xor;rw[if_neg e1,if_pos e2]
  have He:=kH he;clear e1 e2 he fx fy H2
  go_enter func157,ntmps157
  go_upto_region 1 with fail
  rw[<-hW1];clear hW1;go_wp2;go_ret;rw[He.out];exact⟨rfl,tg,vc,HS.out,HU.out⟩
 have q2:=beq_f e2
 by_cases e3:x=1
 ·have q3:=beq_t e3;have he:C.xor x y b=(-y,b):=by unfold C.xor;rw[if_neg e1,if_neg e2,if_pos e3]
  have He:=kH he;clear e1 e2 e3 he fx fy H2
  go_enter func157,ntmps157
  go_upto_region 1 with fail
  rw[<-hW1];clear hW1;go_wp2;go_ret;rw[He.out];exact⟨rfl,tg,vc,HS.out,HU.out⟩
 have q3:=beq_f e3
 by_cases e4:y=1
 ·have q4:=beq_t e4;have he:C.xor x y b=(-x,b):=by unfold C.xor;rw[if_neg e1,if_neg e2,if_neg e3,if_pos e4]
  have He:=kH he;clear e1 e2 e3 e4 he fx fy H2
  go_enter func157,ntmps157
  go_upto_region 1 with fail
  rw[<-hW1];clear hW1;go_wp2;go_ret;rw[He.out];exact⟨rfl,tg,vc,HS.out,HU.out⟩
 have q4:=beq_f e4
 by_cases e5:x=y
 ·have q5:=beq_t e5;have he:C.xor x y b=(-1,b):=by unfold C.xor;rw[if_neg e1,if_neg e2,if_neg e3,if_neg e4,if_pos e5]
  have He:=kH he;clear e1 e2 e3 e4 e5 he fx fy H2
  go_enter func157,ntmps157
  go_upto_region 1 with fail
  rw[<-hW1];clear hW1;go_wp2;go_ret;rw[He.out];exact⟨rfl,tg,vc,HS.out,HU.out⟩
 have q5:=beq_f e5
 by_cases e6:x= -y
 ·have q6:=beq_t e6;have he:C.xor x y b=(1,b):=by unfold C.xor;rw[if_neg e1,if_neg e2,if_neg e3,if_neg e4,if_neg e5,if_pos e6]
  have He:=kH he;clear e1 e2 e3 e4 e5 e6 he fx fy H2
  go_enter func157,ntmps157
  go_upto_region 1 with fail
  rw[<-hW1];clear hW1;go_wp2;go_ret;rw[He.out];exact⟨rfl,tg,vc,HS.out,HU.out⟩
 have q6:=beq_f e6;have he:C.xor x y b=(if(decide (x<0)) !=(decide (y<0))then -(C.xg x y b).1 else(C.xg x y b).1,(C.xg x y b).2):=by unfold C.xor;rw[if_neg e1,if_neg e2,if_neg e3,if_neg e4,if_neg e5,if_neg e6]
 have He:=kH he;clear e1 e2 e3 e4 e5 e6 he;obtain⟨sx,hsx⟩:∃s,decide (x<0)=s:=⟨_,rfl⟩;obtain⟨sy,hsy⟩:∃s,decide (y<0)=s:=⟨_,rfl⟩;rw[hsx,hsy]at He;have hxg:C.xg x y b=C.made (1,min (max x (-x)) (max y (-y)),max (max x (-x)) (max y (-y))) (C.xorCl (min (max x (-x)) (max y (-y))) (max (max x (-x)) (max y (-y))))
  (fun e=>Bool.xor (C.lsem b (min (max x (-x)) (max y (-y))) e) (C.lsem b (max (max x (-x)) (max y (-y))) e)) b:=rfl
 obtain⟨ax,hax⟩:∃p,max x (-x)=p:=⟨_,rfl⟩;obtain⟨ay,hay⟩:∃p,max y (-y)=p:=⟨_,rfl⟩;obtain⟨p,hp⟩:∃p,min ax ay=p:=⟨_,rfl⟩;obtain⟨q,hq⟩:∃q,max ax ay=q:=⟨_,rfl⟩;rw[hax,hay,hp,hq]at hxg;have Hxg:=kH hxg;have mx:(if x< -x then -x else x)=ax:=by rw[<-hax];omega
 have my:(if y< -y then -y else y)=ay:=by rw[<-hay];omega
 have mp:(if ay<ax then ay else ax)=p:=by rw[<-hp];omega
 have mq:(if ax<ay then ay else ax)=q:=by rw[<-hq];omega
 have ibx:C.Ib ax:=by rw[<-hax];exact Hib.out.1.max_ Hib.out.1.neg
 have iby:C.Ib ay:=by rw[<-hay];exact Hib.out.2.max_ Hib.out.2.neg
 have ibp:C.Ib p:=by rw[<-hp];exact ibx.min_ iby
 have ibq:C.Ib q:=by rw[<-hq];exact ibx.max_ iby
 have Hpq:=kH (And.intro ibp ibq);have Hm1:=kH (And.intro mx my);have Hm2:=kH (And.intro mp mq);clear hxg hax hay hp hq mx my mp mq ibx iby ibp ibq
 go_enter func157,ntmps157
 go_upto_region 1 with fail
 rw[<-hW1];clear hW1;obtain⟨W2,hW2⟩:∃W2,W2=((W1.setCell ⟨w.heap.size,0,none⟩ (.int .i64 ax)).setCell ⟨w.heap.size+1,0,none⟩ (.int .i64 ay)).drew:=⟨_,rfl⟩;have HW2:=kH hW2;have HH2:=kH (H2.out _ _ _ hW2);obtain⟨s7,hs7⟩:∃s7,(sx != sy)=s7:=⟨_,rfl⟩;have Hs7:=kH hs7;clear hW2 H2
 go_upto_region 14 with fail
 go_cut [0,4,5,7] (fun a0 a4 a5 a7 wy=>a0= .pointer (some ⟨Bb,0,none⟩)/\a4= .pointer (some ⟨w.heap.size,0,none⟩)/\a5= .pointer (some ⟨w.heap.size+1,0,none⟩)/\a7= .bool s7/\wy=W2)
 case first=>
  go_region
  rw[Hm1.out.1,Hm1.out.2];go_wp2
  go_meet
  first
   | exact⟨rfl,rfl,rfl,by first | exact congrArg Value.bool Hs7.out | simp[<-Hs7.out],HW2.out.symm⟩
   |fail
 case rest=>
 obtain⟨rfl,rfl,rfl,rfl,hwc⟩:=hcut;subst hwc;obtain⟨HS2,HU2,dx,dy,Hb2⟩:=HH2.out;obtain⟨W3,hW3⟩:∃W3,W3=((wc.setCell ⟨w.heap.size,0,none⟩ (.int .i64 p)).setCell ⟨w.heap.size+1,0,none⟩ (.int .i64 q)).drew:=⟨_,rfl⟩;have HH3:=kH (aOs H.out Hb2.out.1 Hb2.out.2.1 Hb2.out.2.2 _ _ hW3);have HW3:=kH hW3;have gx:=aCm Hb2.out.2.1 0;have gy:=aCm Hb2.out.2.2 0;clear HS HU cx cy q1 q2 q3 q4 q5 q6 HS2 HU2 Hm1 hx' hy' Hib hsx hsy HH2 Hb2 fx fy hW3
 go_upto_region 15 with fail
 go_cut [0,4,5,7] (fun a0 a4 a5 a7 wy=>a0= .pointer (some ⟨Bb,0,none⟩)/\a4= .pointer (some ⟨w.heap.size,0,none⟩)/\a5= .pointer (some ⟨w.heap.size+1,0,none⟩)/\a7= .bool s7/\wy=W3)
 case first=>
  go_region
  rw[Hm2.out.1,Hm2.out.2];go_wp2
  go_meet
  exact⟨rfl,rfl,rfl,rfl,HW3.out.symm⟩
 case rest=>
 obtain⟨rfl,rfl,rfl,rfl,hwd⟩:=hcut;subst hwd;obtain⟨HS3,HU3,ex,ey,_⟩:=HH3.out;have HM:=kH (aPr HS3.out (q:=(1,p,q)) (show C.Ib 1 from C.ib1) Hpq.out.1 Hpq.out.2 (aW2 Hpq.out.1 Hpq.out.2 ex ey (Hno.out _ (zBJ _)) (Hno.out _ (Nat.le_succ _))) (fun out=>by simp[C.xorCl]) (C.aHm _ _) (fun e=>Bool.xor (C.lsem b p e) (C.lsem b q e)));unfold gaV at HM;rw[<-Hxg.out]at HM;obtain⟨r,hr⟩:∃r,C.xg x y b=r:=⟨_,rfl⟩;have hrb:C.Ib r.1:=by rw[<-hr];exact C.aLb H.out.bo (C.aHm _ _)
 have hrb':=hrb;unfold C.Ib at hrb';rw[hr]at HM He;clear gx gy dx dy hr HS3 Hm2 Hno HH3 HW3 HW2
 go_wp2_with fail
 refine HM.out.mono ?_;rintro e w3 ⟨rfl,tg3,v3,k1,k2⟩;have Hf:=kH (And.intro k1 (HU3.out.trans k2));clear k1 k2 ex ey;rw[Hs7.out]at He;clear Hs7;cases s7
 all_goals
  go_wp2;go_ret;rw[He.out];exact⟨rfl,tg3,v3,Hf.out.1,Hf.out.2⟩
end
theorem fa_bo{x y k:Int}{b:C.Bd}(h:C.Bo b)(hx:C.Ib x)(hy:C.Ib y)(hk:C.Ib k):C.Bo (C.fa x y k b).2/\C.Ib (C.fa x y k b).1.1/\C.Ib (C.fa x y k b).1.2:=by
 unfold C.fa;simp only;obtain⟨a1,a2⟩:=C.aFt h hx hy;obtain⟨b1,b2⟩:=C.aFt a1 a2 hk;obtain⟨c1,c2⟩:=C.aDc b1 hx hy;obtain⟨d1,d2⟩:=C.aDc c1 a2 hk;obtain⟨e1,e2⟩:=C.or_bo d1 c2 d2;exact⟨e1,b2,e2⟩
theorem aC8{c:Int}(hc:C.Ib c){x y:List Int}(hx:C.Wb x)(hy:C.Wb y){b:C.Bd}(hb:C.Bo b)(hl:x.length<=y.length):∀i,i<=x.length->C.Bo (C.sumTo x y c b i).2/\C.Wb (C.sumTo x y c b i).1.1/\C.Ib (C.sumTo x y c b i).1.2
 | 0,_=>⟨hb,fun l h=>(by cases h),hc⟩
 | i+1,hi=>by
  obtain⟨h1,h2,h2'⟩:=aC8 hc hx hy hb hl i (by omega);obtain⟨h3,h4,h5⟩:=fa_bo h1 (wb_at hx (i:=i) (by omega)) (wb_at hy (i:=i) (by omega)) h2';exact⟨h3,fun l hm=>by
   rcases zBE.1 hm with hm | hm
   ·exact h2 l hm
   ·rw[zBD.1 hm];exact h4,h5⟩
theorem WSt.step{W:World}{B0 Bb Mb:Nat}{tg:TgF}{l:List Int}{b b2:C.Bd}{v:Value}{w1 w2:World}{tg1 tg2:TgF}{v2:Value}(h:WSt W B0 Bb Mb tg (l,b) v w1 tg1)(k1:BAt w2 B0 Bb Mb tg2 v2 b2)(k2:Up B0 tg1 w1 tg2 w2):WSt W B0 Bb Mb tg (l,b2) v w2 tg2:=
 ⟨⟨v2,k1⟩,h.up.trans k2,h.nw.up k2⟩
theorem WSt.drew{W:World}{B0 Bb Mb:Nat}{tg:TgF}{r:List Int×C.Bd}{v:Value}{w1:World}{tg1:TgF}(h:WSt W B0 Bb Mb tg r v w1 tg1):WSt W B0 Bb Mb tg r v w1.drew tg1:=by
 obtain⟨vc,k⟩:=h.bu;have u:=k.up ((Below.refl w1.heap.size w1).drew);exact⟨⟨vc,k.dr ((Dr.refl _).drew)⟩,h.up.trans u,h.nw.up u⟩
def SPost(w:World)(B0 Bb Mb:Nat)(tg:TgF)(r:(List Int×Int)×C.Bd)(e:Ending)(w':World):Prop:=
 ∃A cap tg',e= .returned (.tuple #[.slice A r.1.1.length cap, .int .i64 r.1.2])/\WSt w B0 Bb Mb tg (r.1.1,r.2) (.slice A r.1.1.length cap) w' tg'
section
variable {w w' : World} {B0 Bb Mb : Nat} {tg tg' : TgF} {vc : Value} {b : C.Bd}
theorem aF5(h:BAt w B0 Bb Mb tg vc b){c:Int}(hc:C.Ib c){A1 A2:Option Addr}{c1 c2:Nat}{x y:List Int}(hx:WdAt w tg A1 c1 x)(hy:WdAt w tg A2 c2 y)(hxb:C.Wb x)(hyb:C.Wb y)(hl:x.length=y.length)(hm:x.length<=100000):
 Calls prog 152 #[.pointer (some ⟨Bb,0,none⟩), .slice A1 x.length c1, .slice A2 y.length c2, .int .i64 c] w (SPost w B0 Bb Mb tg (C.sum x y c b)):=by
 have hB:=h.lt Bb _ h.st.2;obtain⟨m,hxl⟩:∃m,x.length=m:=⟨_,rfl⟩;have Hbo:=kH (aC8 hc hxb hyb h.bo (by omega));have Hw:=kH (And.intro hx hy);have Hwb:=kH (And.intro hxb hyb);have Hl:=kH (And.intro hxl hl);have HW0:=kH (show WSt w B0 Bb Mb tg ((C.sumTo x y c b 0).1.1,(C.sumTo x y c b 0).2) (.slice none 0 0) w tg from⟨⟨vc,h⟩,Up.refl _ _ _,WdNew.nil _ _ _⟩);have He:=kH (show C.sum x y c b=C.sumTo x y c b m from by unfold C.sum;rw[hxl]);have Hcx:=kH (show∀(args:Array Value) (X:World),Sem.run prog (callFunc 157 args) X= .ok (.enter 157 args) X from fun args X=>by simp[go_sem,callFunc,Tryz.f157]);have Hca:=kH (show∀(args:Array Value) (X:World),Sem.run prog (callFunc 161 args) X= .ok (.enter 161 args) X from fun args X=>by simp[go_sem,callFunc,Tryz.f161]);have Hco:=kH (show∀(args:Array Value) (X:World),Sem.run prog (callFunc 162 args) X= .ok (.enter 162 args) X from fun args X=>by simp[go_sem,callFunc,Tryz.f162]);rw[<-hl,hxl];rw[hxl]at hm;clear h hc hx hy hxb hyb hl hxl
 go_enter func152,ntmps152
 go_wp2
 go_loopw [3,10,15] (fun cv v i wr=>∃k:Nat,k<=m/\i= .int .i64 (k:Int)/\cv= .int .i64 (C.sumTo x y c b k).1.2/\∃A cap tg',v= .slice A k cap/\Hid (WSt w B0 Bb Mb tg ((C.sumTo x y c b k).1.1,(C.sumTo x y c b k).2) v wr tg')) (fun _ _ i _=>m- (intOf i).toNat)
 case atStart=>exact⟨0,zBL _,rfl,rfl,none,0,tg,rfl,HW0⟩
 case round=>
  obtain⟨k,hk,rfl,rfl,A,cap,tgk,rfl,HS⟩:=hrel
  by_cases hlt:k<m
  ·have hkx:k<x.length:=by rw[Hl.out.1];exact hlt
   have hky:k<y.length:=by rw[<-Hl.out.2];exact hkx
   have hX:=Hw.out.1.up HS.out.up;have hY:=Hw.out.2.up HS.out.up;obtain⟨g1,o1,rfl,e1⟩:=hX.cell hkx;obtain⟨g2,o2,rfl,e2⟩:=hY.cell hky;obtain⟨xk,hxk⟩:∃v,x.getD k 0=v:=⟨_,rfl⟩;obtain⟨yk,hyk⟩:∃v,y.getD k 0=v:=⟨_,rfl⟩;have hbk:=Hbo.out k (Nat.le_of_lt hkx);have ix:C.Ib xk:=by rw[<-hxk];exact wb_at Hwb.out.1 hkx
   have iy:C.Ib yk:=by rw[<-hyk];exact wb_at Hwb.out.2 hky
   have hrl0:(C.sumTo x y c b k).1.1.length=k:=C.aCg;obtain⟨⟨⟨rl,ck⟩,rb⟩,hr⟩:∃r,C.sumTo x y c b k=r:=⟨_,rfl⟩;have hnx:C.sumTo x y c b (k+1)=((rl ++ [(C.fa xk yk ck rb).1.1],(C.fa xk yk ck rb).1.2),(C.fa xk yk ck rb).2):=by rw[C.sumTo,hxk,hyk,hr]
   rw[hr]at hbk hrl0 HS;rw[hr];simp only at hbk hrl0 HS⊢;obtain⟨i0,_,i1⟩:=hbk;obtain⟨i2,i3⟩:=C.aFt i0 ix iy;obtain⟨p1,hp1⟩:∃p,C.xor xk yk rb=p:=⟨_,rfl⟩;rw[hp1]at i2 i3;obtain⟨i4,i5⟩:=C.aFt i2 i3 i1;obtain⟨p2,hp2⟩:∃p,C.xor p1.1 ck p1.2=p:=⟨_,rfl⟩;rw[hp2]at i4 i5;obtain⟨i6,i7⟩:=C.aDc i4 ix iy;obtain⟨p3,hp3⟩:∃p,C.and xk yk p2.2=p:=⟨_,rfl⟩;rw[hp3]at i6 i7;obtain⟨i8,i9⟩:=C.aDc i6 i3 i1;obtain⟨p4,hp4⟩:∃p,C.and p1.1 ck p3.2=p:=⟨_,rfl⟩;rw[hp4]at i8 i9;obtain⟨p5,hp5⟩:∃p,C.or p3.1 p4.1 p4.2=p:=⟨_,rfl⟩;have hfa:C.fa xk yk ck rb=((p2.1,p5.1),p5.2):=by rw[<-hp5,<-hp4,<-hp3,<-hp2,<-hp1];rfl
   rw[hfa]at hnx;have K1:=kH (fun(tg1:TgF) (v1:Value) (w1:World) (k:BAt w1 B0 Bb Mb tg1 v1 rb)=>aHp k ix iy);have K2:=kH (fun(tg1:TgF) (v1:Value) (w1:World) (k:BAt w1 B0 Bb Mb tg1 v1 p1.2)=>aHp k i3 i1);have K3:=kH (fun(tg1:TgF) (v1:Value) (w1:World) (k:BAt w1 B0 Bb Mb tg1 v1 p2.2)=>aD7 k ix iy);have K4:=kH (fun(tg1:TgF) (v1:Value) (w1:World) (k:BAt w1 B0 Bb Mb tg1 v1 p3.2)=>aD7 k i3 i1);have K5:=kH (fun(tg1:TgF) (v1:Value) (w1:World) (k:BAt w1 B0 Bb Mb tg1 v1 p4.2)=>aOt k i7 i9);rw[hp1]at K1;rw[hp2]at K2;rw[hp3]at K3;rw[hp4]at K4;rw[hp5]at K5;rw[hxk]at e1;rw[hyk]at e2;have Hnx:=kH (And.intro hnx hrl0);have Hk:=kH (And.intro hkx (And.intro hky (And.intro hxk hyk)));have HS0:=kH HS.out.drew;obtain⟨v0,hb0⟩:=HS0.out.bu;have HP1:=kH (K1.out _ _ _ hb0);clear hX hY hxk hyk hr hnx hrl0 i0 i1 i2 i3 i4 i5 i6 i7 i8 i9 ix iy hp1 hp2 hp3 hp4 hp5 hfa hkx hky hb0 K1
   go_upto_region 5 with(fail)
   go_cut [12] (fun a12 wy=>∃tg',a12= .int .i64 p1.1/\Hid (WSt w B0 Bb Mb tg (rl,p1.2) (.slice A k cap) wy tg'))
   case first=>
    go_wp2
    go_region_law (first
     | (refine aCs rfl 157 Hcx.out (.tmp 18) (.tmp 22) (.tmp 26) _ _ _ rfl (.pointer (some ⟨Bb, 0, none⟩)) (.int .i64 xk) (.int .i64 yk) rfl rfl rfl HP1.out ?_
        rintro e w2 ⟨rfl,tg2,v2,k1,k2⟩;refine⟨_,rfl,?_⟩;have HK:=kH (HS0.out.step k1 k2);clear k1 k2))
    all_goals
     go_wp2
     go_meet
     exact⟨tg2,rfl,HK⟩
   case rest=>
   obtain⟨tg1,rfl,H1⟩:=hcut;obtain⟨v1,hb1⟩:=H1.out.bu;have HP2:=kH (K2.out _ _ _ hb1);clear hb1 K2 e1 e2 HP1 HS0
   go_wp2_with fail
   refine HP2.out.mono ?_;rintro e w2 ⟨rfl,tg2,v2,k1,k2⟩;have H2:=kH (H1.out.step k1 k2);have hown:OwnAt w2 3 1 (.slice A k cap) k (siv rl):=by have h0:=H2.out.nw.1;rw[Hnx.out.2]at h0;exact h0
   have Hown:=kH hown;clear k1 k2 HP2 H1 hown
   go_upto_region 7 with(at_builtin;go_loud (refine aAk _ rfl (.tmp 28) (.tmp 33) 69 rfl 3 (.int .i64 0) 8 underlying69 Tryz.sinfoInt rfl _ k (siv rl) rfl Hown.out (.int .i64 p2.1) rfl _ rfl (by omega) (by omega) ?_;intro v4 w4 hown' hgr hat;obtain⟨Av,cv,hv⟩:=hown'.form;subst hv;have Hq:=kH (H2.out.app (by omega) (l:=p2.1) (by rw[show((rl,p2.2):List Int×C.Bd).1.length=k from Hnx.out.2];exact hown') hgr (by rw[World.size_alloc];exact hat));clear hown' hgr hat))
   obtain⟨v4',hb4⟩:=Hq.out.bu;have hX:=Hw.out.1.up Hq.out.up;have hY:=Hw.out.2.up Hq.out.up;obtain⟨g1',o1',q1,e1⟩:=hX.cell Hk.out.1;injection q1 with q1
   injection q1 with q1 q2
   subst q1 q2;obtain⟨g2',o2',q1,e2⟩:=hY.cell Hk.out.2.1;injection q1 with q1
   injection q1 with q1 q2
   subst q1 q2;rw[Hk.out.2.2.1]at e1;rw[Hk.out.2.2.2]at e2;have HS7:=kH Hq.out.drew;obtain⟨v7,hb7⟩:=HS7.out.bu;have HP3:=kH (K3.out _ _ _ hb7);clear hX hY hb4 hb7 K3 H2 Hown
   go_region_law (first
    | (refine aCs rfl 161 Hca.out (.tmp 36) (.tmp 40) (.tmp 44) _ _ _ rfl (.pointer (some ⟨Bb, 0, none⟩)) (.int .i64 xk) (.int .i64 yk) rfl rfl rfl HP3.out ?_
       rintro e w5 ⟨rfl,tg5,v5,k1,k2⟩;refine⟨_,rfl,?_⟩;have HK5:=kH (HS7.out.step k1 k2);have HP4:=kH (K4.out _ _ _ k1);clear k1 k2)
    | (refine aCs rfl 161 Hca.out (.tmp 46) (.tmp 47) (.tmp 48) _ _ _ rfl (.pointer (some ⟨Bb, 0, none⟩)) (.int .i64 p1.1) (.int .i64 ck) rfl rfl rfl HP4.out ?_
       rintro e w6 ⟨rfl,tg6,v6,k1,k2⟩;refine⟨_,rfl,?_⟩;have HK6:=kH (HK5.out.step k1 k2);have HP5:=kH (K5.out _ _ _ k1);clear k1 k2)
    | (refine aCs rfl 162 Hco.out (.tmp 35) (.tmp 45) (.tmp 49) _ _ _ rfl (.pointer (some ⟨Bb, 0, none⟩)) (.int .i64 p3.1) (.int .i64 p4.1) rfl rfl rfl HP5.out ?_
       rintro e w7 ⟨rfl,tg7,v7,k1,k2⟩;refine⟨_,rfl,?_⟩;have HK7:=kH (HK6.out.step k1 k2);clear k1 k2))
   all_goals
    go_wp2;go_roundw
    case rel=>exact⟨k+1,by omega,by go_num,by rw[Hnx.out.1],Av,cv,tg7,rfl,by rw[Hnx.out.1];exact HK7⟩
    case measure=>simp[intOf];omega
  ·have hkm:k=m:=by omega
   subst hkm;go_wp2;refine bodyPost_ret (results_tmp2 rfl _ _ _) rfl ?_;rw[He.out];have hlen:(C.sumTo x y c b k).1.1.length=k:=C.aCg;refine⟨A,cap,tgk,?_,?_⟩
   ·rw[hlen];rfl
   ·rw[hlen];exact HS.out
end
theorem aI3{P:Program}{w:World}{ops:Array Oper}{o:Oper}{a:Act}{K:Act->World->Prop}{Q:Exit->Act->World->Prop}{E:Prop}(hgd:o.guard=none)(f:FuncId)(hf:∀args W,Sem.run P (callFunc f args) W= .ok (.enter f args) W)(x y:Operand)(t1 t2:TypeId)
 (ho:o.op= .call {callee:= .value (.func f),args:= #[x,y],argTypes:= #[t1,t2]}) (ux uy:Value) (hx:a.eval x=ux) (hy:a.eval y=uy) {R:Ending->World->Prop}
 (hc:Calls P f #[ux,uy] w R) (h:∀e w',R e w'->∃r,e= .returned r/\K (a.put o.dst r) w'):
 if Region.wanted o (yielded ops a.tmps)=true then Oper.wp P o a w K Q else E:=by
 rw[if_pos (by simp[Region.wanted,hgd])];have hr:(execOp a.eval o).run P w= .ok (.enter f #[ux,uy]) w:=by
  unfold execOp;rw[ho];have hev:a.eval (.func f)= .func (.func f) #[] #[]:=rfl;generalize a.eval=ev at hx hy hev;subst hx hy;simp[go_sem,hf,hev]
 unfold Oper.wp;rw[hr,Oper.upon_enter];refine hc.mono fun e w' he=>?_
 obtain⟨v,rfl,hk⟩:=h e w' he;exact hk
theorem WSt.from_{W W1:World}{B0 Bb Mb:Nat}{tg tg1 tg2:TgF}{r:List Int×C.Bd}{v:Value}{w2:World}(h:WSt W1 B0 Bb Mb tg1 r v w2 tg2)(u:Up B0 tg W tg1 W1):WSt W B0 Bb Mb tg r v w2 tg2:=
 ⟨h.bu,u.trans h.up,h.nw.1,fun g hg=>⟨zBK u.un.size (h.nw.2 g hg).1,(h.nw.2 g hg).2⟩⟩
theorem WSt.wd{W:World}{B0 Bb Mb:Nat}{tg tg2:TgF}{l:List Int}{b:C.Bd}{A:Option Addr}{c:Nat}{w2:World}(h:WSt W B0 Bb Mb tg (l,b) (.slice A l.length c) w2 tg2):WdAt w2 tg2 A c l:=
 ⟨h.nw.1,fun g hg=>(h.nw.2 g hg).2⟩
theorem aEw{x:List Int}(h:C.Wb x):C.Wb (C.notw x):=fun l hl=>by
 obtain⟨y,hy,rfl⟩:=zBU.1 hl;exact(h y hy).neg
theorem aGl{n:Nat}{a:Int}(h:C.Ib a):C.Wb (C.rep n a):=fun l hl=>by rw[(List.mem_replicate.1 hl).2];exact h
theorem aDg(n:Nat)(a:Int):(C.rep n a).length=n:=by simp[C.rep]
theorem aI4{x:List Int}{b:C.Bd}(hb:C.Bo b)(hx:C.Wb x):C.Bo (C.minus x b).2/\C.Wb (C.minus x b).1/\(C.minus x b).1.length=x.length:=by
 obtain⟨h1,h2,_⟩:=aC8 C.ib1 (aEw hx) (aGl (n:=x.length) C.ibm1) hb (by rw[aDg,C.aBy];exact zBJ _) (C.notw x).length (zBJ _);exact⟨h1,h2,by unfold C.minus C.sum;rw[C.aCg,C.aBy]⟩
section
variable {w w' : World} {B0 Bb Mb : Nat} {tg tg' : TgF} {vc : Value} {b : C.Bd}
theorem aI5(h:BAt w B0 Bb Mb tg vc b){A1:Option Addr}{c1:Nat}{x:List Int}(hx:WdAt w tg A1 c1 x)(hxb:C.Wb x)(h1:1<=x.length)(hm:x.length<=100000):
 Calls prog 158 #[.pointer (some ⟨Bb,0,none⟩), .slice A1 x.length c1] w (WPost w B0 Bb Mb tg (C.minus x b)):=by
 have HN:=kH (aI2 hx.1 hxb hm);have hnl:(C.notw x).length=x.length:=C.aBy x;have hrl:=aDg x.length (-1);have H:=kH h;have Hxb:=kH hxb;obtain⟨m,hxl⟩:∃m,x.length=m:=⟨_,rfl⟩;rw[hxl]at HN hnl hrl h1 hm;have Hl:=kH (And.intro hxl (And.intro hnl (And.intro hrl (And.intro h1 hm))));rw[hxl];clear h hx hxb hxl hnl hrl h1
 go_enter func158,ntmps158
 go_wp2_with fail
 refine HN.out.mono ?_;rintro e w1 ⟨A2,c2,rfl,k1,k2,k3⟩;have U1:=kH (H.out.up k1);have B1:=kH (H.out.below k1);have W1:=kH (NPost.wd H.out k2 k3);have HF:=kH (aD8 (w:=w1) (x:= -1) Hl.out.2.2.2.1 Hl.out.2.2.2.2);rw[Hl.out.2.1];clear k1 k2 k3 HN
 go_wp2_with fail
 refine HF.out.mono ?_;rintro e w2 ⟨A3,c3,rfl,k1,k2,k3⟩;have U2:=kH (U1.out.trans (B1.out.up k1));have B2:=kH (B1.out.below k1);have hW1:=W1.out.up (B1.out.up k1);have hW2:=NPost.wd B1.out k2 k3;have HS:=kH (aF5 B2.out C.ib1 hW1 hW2 (aEw Hxb.out) (aGl C.ibm1) (by rw[Hl.out.2.1,Hl.out.2.2.1]) (by rw[Hl.out.2.1];exact hm));rw[Hl.out.2.2.1];rw[Hl.out.2.1,Hl.out.2.2.1]at HS;clear k1 k2 k3 hW1 hW2 HF B1 W1
 go_wp2_with fail
 refine HS.out.mono ?_;rintro e w3 ⟨A4,c4,tg4,rfl,k1⟩;have Hf:=kH (k1.from_ U2.out);clear k1;go_wp2;go_ret;have e1:C.minus x b=((C.sum (C.notw x) (C.rep m (-1)) 1 b).1.1,(C.sum (C.notw x) (C.rep m (-1)) 1 b).2):=by rw[<-Hl.out.1];rfl
 rw[e1];exact⟨A4,c4,tg4,rfl,Hf.out⟩
theorem aEn(h:BAt w B0 Bb Mb tg vc b){A1:Option Addr}{c1:Nat}{x:List Int}(hx:WdAt w tg A1 c1 x)(hxb:C.Wb x)(h1:1<=x.length)(hm:x.length<=100000):
 Calls prog 156 #[.pointer (some ⟨Bb,0,none⟩), .slice A1 x.length c1] w (WPost w B0 Bb Mb tg (C.aA6 x b)):=by
 have hd:=h.dr ((Dr.refl _).drew);have ud:=h.up ((Below.refl _ _).drew);have hxd:=hx.up ud;have HM:=kH (aI5 hd hxd hxb h1 hm);obtain⟨n1,n2,n3⟩:=aI4 h.bo hxb;obtain⟨q,hq⟩:∃q,C.minus x b=q:=⟨_,rfl⟩;rw[hq]at HM n1 n2 n3;have il:C.Ib (C.lastL x):=wb_at hxb (by omega);have He:=kH (show C.aA6 x b=C.picks (C.lastL x) q.1 x q.2 from by rw[<-hq];rfl);obtain⟨g1,o1,rfl,e1⟩:=hx.cell (i:=x.length-1) (by omega);obtain⟨l,hl⟩:∃l,C.lastL x=l:=⟨_,rfl⟩;rw[show x.getD (x.length-1) 0=l from hl]at e1;rw[hl]at il He;have Hq:=kH (And.intro n1 (And.intro n2 (And.intro n3 (And.intro il hxb))));have Hx:=kH (And.intro hxd ud);obtain⟨m,hxl⟩:∃m,x.length=m:=⟨_,rfl⟩;have Hxl:=kH hxl;have Hmm:=kH hm;rw[hxl]at e1 HM h1 hm⊢;have hmi:((m:Nat):Int)-1=((m-1:Nat):Int):=by omega
 obtain⟨m1,hm1⟩:∃m1,m-1=m1:=⟨_,rfl⟩;rw[hm1]at hmi e1;have hlt:m1<m:=by omega
 have hwi:IntKind.i64.wrap ((m1:Nat):Int)=((m1:Nat):Int):=IntWalk.i64_in _ (by omega);have hlt2:((m1:Nat):Int) <((m:Nat):Int):=by omega
 have Hcm:=kH (show∀(args:Array Value) (X:World),Sem.run prog (callFunc 158 args) X= .ok (.enter 158 args) X from fun args X=>by simp[go_sem,callFunc,Tryz.f158]);have Hcp:=kH (show∀(args:Array Value) (X:World),Sem.run prog (callFunc 118 args) X= .ok (.enter 118 args) X from fun args X=>by simp[go_sem,callFunc,Tryz.f118]);clear h hx hd ud hxd hq n1 n2 n3 il hl hxl hxb hm1 h1
 go_enter func156,ntmps156
 go_upto_region 1 with(fail)
 go_region_law (first
  | (refine aI3 rfl 158 Hcm.out (.tmp 12) (.tmp 13) _ _ rfl (.pointer (some ⟨Bb, 0, none⟩)) (.slice (some ⟨g1, o1, none⟩) m c1) (by go_simp) (by go_simp) HM.out ?_
     rintro e w2 ⟨A2,c2,tg2,rfl,k⟩;refine⟨_,rfl,?_⟩;have e2:w2.cell? ⟨g1,o1+m1,none⟩=some (.int .i64 l):=(aBn (k.up.un.no g1 (Hx.out.1.1.lt g1 rfl) (Hx.out.1.2 g1 rfl)).2).trans e1;have H2:=kH k;have HP:=kH (show Calls prog 118 #[.pointer (some ⟨Bb,0,none⟩), .int .i64 l, .slice A2 q.1.length c2, .slice (some ⟨g1,o1,none⟩) m c1] w2 (WPost w2 B0 Bb Mb tg2 (C.picks l q.1 x q.2))from by
      obtain⟨v2,kb⟩:=k.bu;have:=aEm kb Hq.out.2.2.2.1 (x:=q.1) (y:=x) k.wd (Hx.out.1.up k.up) Hq.out.2.1 Hq.out.2.2.2.2 Hq.out.2.2.1 (by rw[Hq.out.2.2.1];exact Hmm.out);rw[Hxl.out]at this;exact this)
     clear k)
  | (refine aI1 rfl 118 Hcp.out (.tmp 5) (.tmp 11) (.tmp 14) (.tmp 15) _ _ _ _ rfl (.pointer (some ⟨Bb, 0, none⟩)) (.int .i64 l) (.slice A2 q.1.length c2) (.slice (some ⟨g1, o1, none⟩) m c1) (by go_simp) (by go_simp) (by go_simp) (by go_simp) HP.out ?_
     rintro e w3 ⟨A3,c3,tg3,rfl,k⟩;refine⟨_,rfl,?_⟩;have H3:=kH (k.from_ (Hx.out.2.trans H2.out.up));clear k))
 all_goals
  go_wp2;go_ret;rw[He.out];exact⟨A3,c3,tg3,rfl,H3.out⟩
end
theorem aG8{w:World}{e:TypeId}{g off n c:Nat}{xs:List Value}(h:OwnAt w e 1 (.slice (some ⟨g,off,none⟩) n c) n xs){k:Nat}(hk:k<n)(u:Value):OwnAt (w.setCell ⟨g,off+k,none⟩ u) e 1 (.slice (some ⟨g,off,none⟩) n c) n (xs.set k u):=by
 obtain⟨h1,h2⟩:=h;refine⟨by simpa using h1,?_⟩;rcases h2 with⟨h2,h3⟩ |⟨g',off',cap,cur,e1,hc,i1,i2,i3,i4⟩
 ·cases h2
 ·cases e1;refine .inr ⟨g,off,c,cur.setIfInBounds (off+k) u,rfl,heap_setCell_same w g (off+k) _ _ u hc,i1,i2,by simpa using i3,fun j v hv=>?_⟩;rw[List.getElem?_set]at hv;rw[Array.getElem?_setIfInBounds];split at hv
  ·rename_i hj;subst hj;split at hv
   ·rw[if_pos rfl,if_pos (by omega)];exact hv
   ·cases hv
  ·rename_i hj;rw[if_neg (by omega)];exact i4 j v hv
theorem WSt.put{W:World}{B0 Bb Mb:Nat}{tg:TgF}{l:List Int}{b:C.Bd}{g o c n:Nat}{w1:World}{tg1:TgF}(h:WSt W B0 Bb Mb tg (l,b) (.slice (some ⟨g,o,none⟩) n c) w1 tg1)(hB:B0<=W.heap.size)(hn:l.length=n){k:Nat}(hk:k<n)(a:Int):
 WSt W B0 Bb Mb tg (l.set k a,b) (.slice (some ⟨g,o,none⟩) n c) (w1.setCell ⟨g,o+k,none⟩ (.int .i64 a)) tg1:=by
 subst hn;obtain⟨vc,hb⟩:=h.bu;obtain⟨hg1,hg2⟩:=h.nw.2 g rfl;have hk1:∀x,x≠g->(w1.setCell ⟨g,o+k,none⟩ (.int .i64 a)).heap[x]? =w1.heap[x]? :=fun x hx=>Below.heap_setCell w1 ⟨g,o+k,none⟩ _ x hx
 have hne:∀x t,tg1 x=some t->x≠g:=fun x t hx e=>by rw[e,hg2]at hx;cases hx
 refine⟨⟨vc,hb.frame (by rw[aAf];exact zBJ _) fun x t hx=>hk1 x (hne x t hx)⟩,⟨⟨by rw[aAf];exact h.up.un.size,fun x hx hn=>?_,fun x hx=>?_⟩,?_⟩,?_,fun g' hg'=>h.nw.2 g' hg'⟩
 ·obtain⟨k1,k2⟩:=h.up.un.no x hx hn;exact⟨k1,(hk1 x (by omega)).trans k2⟩
 ·obtain⟨k1,k2⟩:=h.up.un.wl x hx;exact⟨k1,(hk1 x (hne x _ k1)).trans k2⟩
 ·exact h.up.bl.setCell (p:=⟨g,o+k,none⟩) (zBK hB hg1) _
 ·show OwnAt _ _ 1 _ (l.set k a).length (siv (l.set k a))
  rw[zBC,aDd];exact aG8 h.nw.1 hk _
theorem aMl{n:Nat}{x:List Int}{yi:Int}{i:Nat}(hx:C.Wb x)(hy:C.Ib yi){b:C.Bd}(hb:C.Bo b):∀k,k<=x.length->C.Bo (C.rowTo n x yi i b k).2/\C.Wb (C.rowTo n x yi i b k).1
 | 0,_=>⟨hb,aGl C.ibm1⟩
 | k+1,hk=>by
  obtain⟨h1,h2⟩:=aMl (n:=n) (i:=i) hx hy hb k (by omega);obtain⟨h3,h4⟩:=C.aDc h1 (wb_at hx (i:=k) (by omega)) hy;exact⟨h3,fun l hm=>by
   rcases List.mem_or_eq_of_mem_set hm with hm | rfl
   ·exact h2 l hm
   ·exact h4⟩
theorem aI6{x y:List Int}(hx:C.Wb x)(hy:C.Wb y)(hl:x.length=y.length){b:C.Bd}(hb:C.Bo b):∀i,i<=x.length->C.Bo (C.aAp x y b i).2/\C.Wb (C.aAp x y b i).1/\(C.aAp x y b i).1.length=x.length
 | 0,_=>⟨hb,aGl C.ibm1,aDg _ _⟩
 | i+1,hi=>by
  obtain⟨h1,h2,h3⟩:=aI6 hx hy hl hb i (by omega);obtain⟨h4,h5⟩:=aMl (n:=x.length) (i:=i) hx (wb_at hy (i:=i) (by omega)) h1 (x.length-i) (by omega);obtain⟨h6,h7,_⟩:=aC8 C.ibm1 h2 h5 h4 (by rw[C.aGh,h3];exact zBJ _) (C.aAp x y b i).1.length (zBJ _);exact⟨h6,h7,by show(C.sumTo _ _ _ _ _).1.1.length=_;rw[C.aCg,h3]⟩
section
variable {w w' : World} {B0 Bb Mb : Nat} {tg tg' : TgF} {vc : Value} {b : C.Bd}
theorem aW9(h:BAt w B0 Bb Mb tg vc b){A1 A2:Option Addr}{c1 c2:Nat}{x y:List Int}(hx:WdAt w tg A1 c1 x)(hy:WdAt w tg A2 c2 y)(hxb:C.Wb x)(hyb:C.Wb y)(hl:x.length=y.length)(h1:1<=x.length)(hm:x.length<=100000):
 Calls prog 154 #[.pointer (some ⟨Bb,0,none⟩), .slice A1 x.length c1, .slice A2 y.length c2] w (WPost w B0 Bb Mb tg (C.times x y b)):=by
 have hB:=h.lt Bb _ h.st.2;obtain⟨n,hxl⟩:∃n,x.length=n:=⟨_,rfl⟩;have Hbo:=kH (aI6 hxb hyb hl h.bo);have Hw:=kH (And.intro hx hy);have Hwb:=kH (And.intro hxb hyb);have H:=kH h;have He:=kH (show C.times x y b=C.aAp x y b n from by unfold C.times;rw[hxl]);have Hca:=kH (show∀(args:Array Value) (X:World),Sem.run prog (callFunc 161 args) X= .ok (.enter 161 args) X from fun args X=>by simp[go_sem,callFunc,Tryz.f161]);have Hl:=kH (And.intro hxl hl);have HF:=kH (fun W:World=>aD8 (w:=W) (x:= -1) (n:=n) (by omega) (by omega));have Hrl:=kH (aDg n (-1));rw[<-hl,hxl];rw[hxl]at hm h1;have HF0:=kH (HF.out w);clear h hx hy hxb hyb hl hxl
 go_enter func154,ntmps154
 go_wp2_with fail
 refine HF0.out.mono ?_;rintro e w1 ⟨A3,c3,rfl,k1,k2,k3⟩;rw[Hrl.out];have HW0:=kH (show WSt w B0 Bb Mb tg (C.aAp x y b 0) (.slice A3 n c3) w1 tg from⟨⟨vc,H.out.below k1⟩,H.out.up k1,by
  rw[C.aAp,Hl.out.1];refine⟨by have h0:=k2;rw[Hrl.out]at h0;rw[Hrl.out];exact h0,fun g hg=>?_⟩;rw[<-Hrl.out]at hg;exact⟨k3 g hg,H.out.none_ (k3 g hg)⟩⟩)
 clear k1 k2 k3 HF0;go_wp2
 go_loopw [7,16] (fun v i wr=>∃k:Nat,k<=n/\i= .int .i64 (k:Int)/\∃A cap tg',v= .slice A n cap/\Hid (WSt w B0 Bb Mb tg (C.aAp x y b k) v wr tg')) (fun _ i _=>n- (intOf i).toNat)
 case atStart=>exact⟨0,zBL _,rfl,A3,c3,tg,rfl,HW0⟩
 case round=>
  obtain⟨i,hi,rfl,A,cap,tgi,rfl,HS⟩:=hrel;obtain⟨wo,hwo⟩:∃wo,wo=wr:=⟨_,rfl⟩;subst hwo
  by_cases hlt:i<n
  ·have HF1:=kH (HF.out wo)
   go_wp2_with fail
   refine HF1.out.mono ?_;rintro e w2 ⟨A4,c4,rfl,k1,k2,k3⟩;rw[Hrl.out];have hix:i<x.length:=by rw[Hl.out.1];exact hlt
   have hiy:i<y.length:=by rw[<-Hl.out.2];exact hix
   obtain⟨yi,hyi⟩:∃v,y.getD i 0=v:=⟨_,rfl⟩;have iy:C.Ib yi:=by rw[<-hyi];exact wb_at Hwb.out.2 hiy
   obtain⟨t1,t2,t3⟩:=Hbo.out i (Nat.le_of_lt hix);have hnx:C.aAp x y b (i+1)=((C.sum (C.aAp x y b i).1 (C.rowTo n x yi i (C.aAp x y b i).2 (n-i)).1 (-1) (C.rowTo n x yi i (C.aAp x y b i).2 (n-i)).2).1.1,(C.sum (C.aAp x y b i).1 (C.rowTo n x yi i (C.aAp x y b i).2 (n-i)).1 (-1) (C.rowTo n x yi i (C.aAp x y b i).2 (n-i)).2).2):=by rw[C.aAp,hyi,Hl.out.1]
   obtain⟨r,hr⟩:∃r,C.aAp x y b i=r:=⟨_,rfl⟩;rw[hr]at hnx t1 t2 t3 HS;obtain⟨rl,rb⟩:=r;simp only at hnx t1 t2 t3;obtain⟨vi,hbi⟩:=HS.out.bu;have hrl:rl.length=n:=by rw[t3,Hl.out.1]
   have hk2:OwnAt w2 3 1 (.slice A4 n c4) n (siv (C.rep n (-1))):=by rw[Hrl.out]at k2;exact k2
   obtain⟨g4,o4,c4',q1,_⟩:=aAg hk2 (aBx (l:=C.rep n (-1)) (i:=0) (by rw[Hrl.out];omega));injection q1 with q1 _ q2
   subst q1 q2;have HI0:=kH (show WSt wo B0 Bb Mb tgi (C.rowTo n x yi i rb 0) (.slice (some ⟨g4,o4,none⟩) n c4) w2 tgi from⟨⟨vi,hbi.below k1⟩,hbi.up k1,by
    refine⟨by rw[C.rowTo,Hrl.out];exact hk2,fun g hg=>?_⟩;rw[<-Hrl.out]at hg;exact⟨k3 g hg,hbi.none_ (k3 g hg)⟩⟩)
   have HBr:=kH (show B0<=wo.heap.size from by have:=HS.out.up.un.size;omega);have Hbi:=kH (aMl (n:=n) (i:=i) Hwb.out.1 iy t1);have Hin:=kH (And.intro hnx (And.intro t2 (And.intro hrl (And.intro hiy (And.intro hyi iy)))));have Hix:=kH hix;clear k1 k2 k3 HF1 hk2 hnx t1 t2 t3 hr hbi hrl hix hiy hyi iy;go_wp2
   go_loopw [10] (fun j wr=>∃k:Nat,k<=n-i/\j= .int .i64 (k:Int)/\∃tg',Hid (WSt wo B0 Bb Mb tgi (C.rowTo n x yi i rb k) (.slice (some ⟨g4,o4,none⟩) n c4) wr tg')) (fun j _=>n-i- (intOf j).toNat)
   case atStart=>exact⟨0,zBL _,rfl,tgi,HI0⟩
   case round=>
    obtain⟨k,hk,rfl,tgk,HK⟩:=hrel
    by_cases hlk:i+k<n
    ·obtain⟨ik,hik⟩:∃ik,i+k=ik:=⟨_,rfl⟩;have hkx:k<x.length:=by rw[Hl.out.1];omega
     obtain⟨g1,o1,rfl,e1⟩:=(Hw.out.1.up (HS.out.up.trans HK.out.up)).cell hkx;obtain⟨g2,o2,rfl,e2⟩:=(Hw.out.2.up (HS.out.up.trans HK.out.up)).cell Hin.out.2.2.2.1;obtain⟨xk,hxk⟩:∃v,x.getD k 0=v:=⟨_,rfl⟩;rw[hxk]at e1;rw[Hin.out.2.2.2.2.1]at e2;have ix:C.Ib xk:=by rw[<-hxk];exact wb_at Hwb.out.1 hkx
     have ib:=(Hbi.out k (Nat.le_of_lt hkx)).1;have hpl:(C.rowTo n x yi i rb k).1.length=n:=C.aGh;have hst:C.rowTo n x yi i rb (k+1)=((C.rowTo n x yi i rb k).1.set ik (C.and xk yi (C.rowTo n x yi i rb k).2).1,(C.and xk yi (C.rowTo n x yi i rb k).2).2):=by rw[C.rowTo,hxk,hik]
     obtain⟨r,hr⟩:∃r,C.rowTo n x yi i rb k=r:=⟨_,rfl⟩;rw[hr]at hst hpl ib HK;obtain⟨pl,pb⟩:=r;simp only at hst hpl ib;obtain⟨v7,hb7⟩:=HK.out.drew.bu;have HP:=kH (aD7 hb7 ix Hin.out.2.2.2.2.2);obtain⟨q,hq⟩:∃q,C.and xk yi pb=q:=⟨_,rfl⟩;rw[show((pl,pb):List Int×C.Bd).2=pb from rfl,hq]at HP;rw[hq]at hst;have HD:=kH HK.out.drew;have Hst:=kH (And.intro hst hpl);have hd1:decide ((i:Int)+(k:Int) <(n:Int))=true:=by simp;omega
     have hd2:decide (((ik:Nat):Int) <((n:Nat):Int))=true:=by simp;omega
     have hwi:IntKind.i64.wrap ((i:Int)+(k:Int))=((ik:Nat):Int):=by rw[IntWalk.i64_in _ (by omega)];omega
     have hikn:ik<n:=by omega
     have hikn2:((ik:Nat):Int) <((n:Nat):Int):=by omega
     have hkn1:k<n:=by omega
     clear hkx hxk ix ib hst hpl hr hb7 hq hik
     go_upto_region 9 with(fail)
     go_region_law (first
      | (refine aCs rfl 161 Hca.out (.tmp 34) (.tmp 38) (.tmp 42) _ _ _ rfl (.pointer (some ⟨Bb, 0, none⟩)) (.int .i64 xk) (.int .i64 yi) (by go_simp) (by go_simp) (by go_simp) HP.out ?_
         rintro e w5 ⟨rfl,tg5,v5,k1,k2⟩;refine⟨_,rfl,?_⟩;have HK5:=kH (HD.out.step k1 k2);have ht:=aAg (show OwnAt w5 3 1 (.slice (some ⟨g4,o4,none⟩) n c4) n (siv pl)from by have h0:=HK5.out.nw.1;rw[show((pl,q.2):List Int×C.Bd).1.length=n from Hst.out.2]at h0;exact h0) (aBx (l:=pl) (i:=ik) (by rw[Hst.out.2];exact hikn));obtain⟨g5,o5,c5,q1,q2,q3,_⟩:=ht;injection q1 with q1 _ q6
         subst q6;injection q1 with q1
         injection q1 with q4 q5
         subst q4 q5;have q3':=q3 (o4+ik);clear k1 k2 q3))
     all_goals
      go_wp2;go_roundw
      case rel=>exact⟨k+1,by omega,by go_num,tg5,by rw[Hst.out.1];exact kH (HK5.out.put HBr.out Hst.out.2 hikn q.1)⟩
      case measure=>simp[intOf];omega
    ·have hd1:decide ((i:Int)+(k:Int) <(n:Int))=false:=by simp;omega
     have hd2:¬((i:Int)+(k:Int) <(n:Int)):=by omega
     have hkn:k=n-i:=by omega
     obtain⟨b7,b8⟩:=Hbi.out k (by rw[Hl.out.1];omega);have hpl:(C.rowTo n x yi i rb k).1.length=n:=C.aGh;have hnx:=Hin.out.1;rw[<-hkn]at hnx;obtain⟨r,hr⟩:∃r,C.rowTo n x yi i rb k=r:=⟨_,rfl⟩;rw[hr]at b7 b8 hpl HK hnx;obtain⟨pl,pb⟩:=r;simp only at b7 b8 hpl hnx;obtain⟨v7,hb7⟩:=HK.out.bu;have hwo:WdAt wo tgi A cap rl:=⟨by have h0:=HS.out.nw.1;rw[Hin.out.2.2.1];rw[show((rl,rb):List Int×C.Bd).1.length=n from Hin.out.2.2.1]at h0;exact h0,fun g hg=>by rw[Hin.out.2.2.1]at hg;exact(HS.out.nw.2 g hg).2⟩;have hwp:WdAt wr tgk (some ⟨g4,o4,none⟩) c4 pl:=⟨by have h0:=HK.out.nw.1;rw[show((pl,pb):List Int×C.Bd).1.length=n from hpl]at h0;rw[show pl.length=n from hpl];exact h0,fun g hg=>by rw[show pl.length=n from hpl]at hg;exact(HK.out.nw.2 g hg).2⟩;have HP:=kH (aF5 hb7 C.ibm1 (hwo.up HK.out.up) hwp Hin.out.2.1 b8 (by rw[Hin.out.2.2.1,hpl]) (by rw[Hin.out.2.2.1];exact hm));rw[Hin.out.2.2.1,hpl]at HP;have Hu:=kH (HS.out.up.trans HK.out.up);have hql:(C.sum rl pl (-1) pb).1.1.length=n:=by unfold C.sum;rw[C.aCg,Hin.out.2.2.1]
     rw[show((pl,pb):List Int×C.Bd).2=pb from rfl]at HP;obtain⟨q,hq⟩:∃q,C.sum rl pl (-1) pb=q:=⟨_,rfl⟩;rw[hq]at HP hql hnx;have Hn:=kH (And.intro hnx hql);clear b7 b8 hpl hr hb7 hwo hwp hkn hnx hql hq
     go_wp2_with fail
     refine HP.out.mono ?_;rintro e w5 ⟨A5,c5,tg5,rfl,k⟩;rw[Hn.out.2]at k⊢;have Hf:=kH (k.from_ Hu.out);clear k HP;go_wp2;go_roundw
     case rel=>exact⟨i+1,by omega,by go_num,A5,c5,tg5,rfl,by rw[Hn.out.1];exact Hf⟩
     case measure=>simp[intOf];omega
  ·have hkm:i=n:=by omega
   subst hkm;go_wp2;go_ret;rw[He.out];have hrl:(C.aAp x y b i).1.length=i:=by rw[(Hbo.out i (zAM Hl.out.1.symm)).2.2,Hl.out.1]
   refine⟨A,cap,tgi,?_,?_⟩
   ·rw[hrl];rfl
   ·rw[hrl];exact HS.out
end
def rvTo(x:List Int):Nat->List Int
 | 0=>x
 | k+1=>((rvTo x k).set k (x.getD (x.length-1-k) 0)).set (x.length-1-k) (x.getD k 0)
theorem aI7{x:List Int}:∀k,(rvTo x k).length=x.length
 | 0=>rfl
 | k+1=>by simp[rvTo,aI7 k]
theorem aLg{x:List Int}:∀k,2*k<=x.length->∀m,m<x.length->(rvTo x k)[m]? =some (if m<k\/x.length-1-m<k then x.getD (x.length-1-m) 0 else x.getD m 0)
 | 0,_,m,hm=>by
  rw[if_neg (by omega)]
  show x[m]? =_
  rw[List.getD,zAB hm];rfl
 | k+1,hk,m,hm=>by
  have ih:=aLg k (by omega) m hm
  show(((rvTo x k).set k _).set _ _)[m]? =_
  rw[List.getElem?_set,zBC,aI7]
  by_cases e:x.length-1-k=m
  ·rw[if_pos e,if_pos (by omega),if_pos (by omega)]
   congr 2
   omega
  ·rw[if_neg e,List.getElem?_set,aI7]
   by_cases e2:k=m
   ·subst e2;rw[if_pos rfl,if_pos hm,if_pos (by omega)]
   ·rw[if_neg e2,ih]
    by_cases e3:m<k\/x.length-1-m<k
    ·rw[if_pos e3,if_pos (by omega)]
    ·rw[if_neg e3,if_neg (by omega)]
theorem bBu{x:List Int}{k:Nat}(h1:2*k<=x.length)(h2:x.length<=2*k+1):rvTo x k=x.reverse:=by
 apply List.ext_getElem?;intro m
 by_cases hm:m<x.length
 ·rw[aLg k h1 m hm,List.getElem?_reverse hm]
  by_cases e:m<k\/x.length-1-m<k
  ·rw[if_pos e,List.getD,zAB (by omega)];rfl
  ·rw[if_neg e];have em:x.length-1-m=m:=by omega
   rw[em,List.getD,zAB hm];rfl
 ·rw[zAN (by rw[aI7];omega),zAN (by simp;omega)]
structure RvSt(w:World)(g o n c:Nat)(l:List Int)(w':World):Prop where
 bl:Below g w w'
 ot:∀b,b≠g->w'.heap[b]? =w.heap[b]?
 sz:w'.heap.size=w.heap.size
 own:OwnAt w' 3 1 (.slice (some ⟨g,o,none⟩) n c) n (siv l)
theorem RvSt.swap{w:World}{g o n c:Nat}{l:List Int}{w1:World}(h:RvSt w g o n c l w1){i j:Nat}(hi:i<n)(hj:j<n)(a b:Int):
 RvSt w g o n c ((l.set i a).set j b) (((w1.setCell ⟨g,o+i,none⟩ (.int .i64 a)).setCell ⟨g,o+j,none⟩ (.int .i64 b)).drew):=by
 refine⟨((h.bl.setCell (p:=⟨g,o+i,none⟩) (zBJ _) _).setCell (p:=⟨g,o+j,none⟩) (zBJ _) _).drew,fun x hx=>?_,?_,?_⟩
 ·show(((w1.setCell _ _).setCell _ _)).heap[x]? =_
  rw[Below.heap_setCell _ ⟨g,o+j,none⟩ _ x hx,Below.heap_setCell _ ⟨g,o+i,none⟩ _ x hx];exact h.ot x hx
 ·show(((w1.setCell _ _).setCell _ _)).heap.size=_
  rw[aAf,aAf];exact h.sz
 ·have h1:=aG8 (aG8 h.own hi (.int .i64 a)) hj (.int .i64 b);rw[<-aDd,<-aDd]at h1;exact h1.same fun _ _=>rfl
theorem aSm{w:World}{g o n c:Nat}{x:List Int}(hx:OwnAt w 3 1 (.slice (some ⟨g,o,none⟩) n c) n (siv x))(hn:x.length=n)(hm:n<=100000):
 Calls prog 195 #[.slice (some ⟨g,o,none⟩) n c] w fun e w'=>e= .returned (.tuple #[])/\RvSt w g o n c x.reverse w':=by
 have H0:=kH (show RvSt w g o n c (rvTo x 0) w from⟨Below.refl _ _,fun _ _=>rfl,rfl,hx⟩);have Hn:=kH hn;clear hx hn
 go_enter func195,ntmps195
 go_wp2
 go_loopw [2,3] (fun i j wr=>∃k:Nat,2*k<=n/\i= .int .i64 (k:Int)/\j= .int .i64 ((n:Int)-1- (k:Int))/\Hid (RvSt w g o n c (rvTo x k) wr)) (fun i _ _=>n- (intOf i).toNat)
 case atStart=>exact⟨0,by omega,rfl,by simp,H0⟩
 case round=>
  obtain⟨k,hk,rfl,rfl,HS⟩:=hrel
  by_cases hlt:2*k+1<n
  ·obtain⟨j,hj⟩:∃j,n-1-k=j:=⟨_,rfl⟩;have hji:(n:Int)-1- (k:Int)=((j:Nat):Int):=by omega
   have hjn:j<n:=by omega
   have hkn:k<n:=by omega
   have hkj:k<j:=by omega
   have hne:¬(k=j):=by omega
   have hne2:¬(j=k):=by omega
   have hd1:decide (((k:Nat):Int) <((j:Nat):Int))=true:=by simp;omega
   obtain⟨xk,hxk⟩:∃v,x.getD k 0=v:=⟨_,rfl⟩;obtain⟨xj,hxj⟩:∃v,x.getD j 0=v:=⟨_,rfl⟩;have hst:rvTo x (k+1)=((rvTo x k).set k xj).set j xk:=by rw[rvTo,Hn.out,hj,hxk,hxj]
   have ek:(rvTo x k)[k]? =some xk:=by rw[aLg k (by rw[Hn.out];exact hk) k (by rw[Hn.out];exact hkn),if_neg (by rw[Hn.out];omega),hxk]
   have ej:(rvTo x k)[j]? =some xj:=by rw[aLg k (by rw[Hn.out];exact hk) j (by rw[Hn.out];exact hjn),if_neg (by rw[Hn.out];omega),hxj]
   have e1:(siv (rvTo x k))[k]? =some (.int .i64 xk):=by unfold siv;rw[zAW,ek];rfl
   have e2:(siv (rvTo x k))[j]? =some (.int .i64 xj):=by unfold siv;rw[zAW,ej];rfl
   obtain⟨g1,o1,c1,q1,q2,q3,_⟩:=aAg HS.out.own e1;injection q1 with q1 _ q6
   subst q6;injection q1 with q1
   injection q1 with q4 q5
   subst q4 q5;obtain⟨g1,o1,c1,q1,p2,_⟩:=aAg HS.out.own e2;injection q1 with q1 _ q6
   subst q6;injection q1 with q1
   injection q1 with q4 q5
   subst q4 q5;have f1:=q3 (o+k);have f2:=q3 (o+j);have Hsw:=kH (HS.out.swap hkn hjn xj xk);have Hst:=kH hst;have hw1:IntKind.i64.wrap ((k:Int)+1)=(k:Int)+1:=IntWalk.i64_in _ (by omega);have Hji:=kH hji;rw[hji];clear hst ek ej e1 e2 hxk hxj hj q3 hji
   go_upto_region 3 with(fail)
   go_region
   obtain⟨wn,hwn⟩:∃wn,wn=((wr.setCell ⟨g,o+k,none⟩ (.int .i64 xj)).setCell ⟨g,o+j,none⟩ (.int .i64 xk)).drew:=⟨_,rfl⟩;have Hsn:=kH (show RvSt w g o n c (rvTo x (k+1)) wn from by rw[hwn,Hst.out];exact Hsw.out);rw[<-hwn];clear hwn Hsw q2 p2 f1 f2;go_wp2;go_roundw
   case rel=>exact⟨k+1,by omega,by go_num,congrArg (Value.int .i64) (by have:=Hji.out;omega),Hsn⟩
   case measure=>simp[intOf];omega
  ·have hd1:decide ((k:Int) <(n:Int)-1- (k:Int))=false:=by simp;omega
   go_wp2;refine bodyPost_end (results_none rfl _ _ _) rfl ?_;refine⟨rfl,?_⟩;rw[<-bBu (k:=k) (by rw[Hn.out];exact hk) (by rw[Hn.out];omega)];exact HS.out
theorem aHy{w:World}{tg:TgF}{A:Option Addr}{c:Nat}{x:List Int}(hx:WdAt w tg A c x)(h1:1<=x.length)(hm:x.length<=100000):
 Calls prog 160 #[.slice A x.length c] w (NPost w x.reverse):=by
 have HC:=kH (aDl hx hm);obtain⟨n,hn⟩:∃n,x.length=n:=⟨_,rfl⟩;rw[hn]at HC h1 hm⊢;have Hn:=kH (And.intro hn (And.intro h1 hm));clear hx hn
 go_enter func160,ntmps160
 go_wp2_with fail
 refine HC.out.mono ?_;rintro e w1 ⟨A1,c1,rfl,k1,k2,k3⟩;rw[Hn.out.1]at k2 k3⊢;obtain⟨g,o,c2,q1,_⟩:=aAg k2 (aBx (i:=0) (by have:=Hn.out;omega));injection q1 with q1 _ q2
 subst q1 q2;have HR:=kH (aSm k2 Hn.out.1 Hn.out.2.2);have Hk:=kH (And.intro k1 k3);clear k1 k2 k3 HC
 go_wp2_with fail
 refine HR.out.mono ?_;rintro e w2 ⟨rfl,k⟩;have Hf:=kH k;clear k HR;go_wp2;go_ret;have hl:x.reverse.length=n:=by rw[List.length_reverse];exact Hn.out.1
 refine⟨some ⟨g,o,none⟩,c1,by rw[hl];rfl,Hk.out.1.trans (Hf.out.bl.mono (Hk.out.2 g rfl)),?_,?_⟩
 ·rw[hl];exact Hf.out.own
 ·rw[hl];exact Hk.out.2
theorem aMm(l:List Int)(m:Nat):siv (l.take m)=(siv l).take m:=by simp[siv,List.map_take]
theorem WdAt.low{w:World}{tg:TgF}{A:Option Addr}{c m:Nat}{l:List Int}(h:WdAt w tg A c l)(hm:m<=l.length):WdAt w tg A c (l.take m):=by
 have e:(l.take m).length=m:=by simp;omega
 refine⟨?_,fun g hg=>h.2 g ?_⟩
 ·rw[e,aMm];exact aMj h.1 hm
 ·cases A with
  | none=>cases hg
  | some a=>exact hg
theorem aG9{l:List Int}(h:C.Wb l)(m:Nat):C.Wb (l.take m):=fun x hx=>h x (List.mem_of_mem_take hx)
theorem aEx{l m:List Int}(h:C.Wb l)(k:C.Wb m):C.Wb (l ++ m):=fun x hx=>(zBE.1 hx).elim (h x) (k x)
theorem aGm{a:Int}(h:C.Ib a):C.Wb [a]:=fun x hx=>by rw[zBD.1 hx];exact h
theorem aZb{l:List Int}{a:Int}(h:C.Wb l)(k:C.Ib a)(i:Nat):C.Wb (l.set i a):=fun x hx=>by
 rcases List.mem_or_eq_of_mem_set hx with hx | rfl
 ·exact h x hx
 ·exact k
structure DBo(n:Nat)(d:C.DS):Prop where
 b:C.Bo d.b
 q:C.Wb d.q
 r:C.Wb d.r
 ql:d.q.length=n
 rl:d.r.length=n
theorem aXa{x y:List Int}(hx:C.Wb x)(hy:C.Wb y)(hl:x.length=y.length){d:C.DS}(h:DBo x.length d){i:Nat}(hi:i<x.length):DBo x.length (C.aFb x y i d):=by
 have hn:C.Wb (x.getD i 0 :: d.r):=aEx (l:= [x.getD i 0]) (aGm (wb_at hx hi)) h.r;have hln:(x.getD i 0 :: d.r).length=x.length+1:=by simp[h.rl]
 have hly:(C.notw (y ++ [-1])).length=x.length+1:=by rw[C.aBy];simp[hl]
 obtain⟨s1,s2,s3⟩:=aC8 C.ib1 hn (aEw (aEx hy (aGm C.ibm1))) h.b (by rw[hln,hly];exact zBJ _) (x.getD i 0 :: d.r).length (zBJ _);have hsl:(C.sum (x.getD i 0 :: d.r) (C.notw (y ++ [-1])) 1 d.b).1.1.length=x.length+1:=by unfold C.sum;rw[C.aCg,hln]
 have ht:((C.sum (x.getD i 0 :: d.r) (C.notw (y ++ [-1])) 1 d.b).1.1.take x.length).length=x.length:=by rw[zAZ,hsl];omega
 have ht2:((x.getD i 0 :: d.r).take x.length).length=x.length:=by rw[zAZ,hln];omega
 obtain⟨p1,p2⟩:=aFw s3 (aG9 s2 x.length) (aG9 hn x.length) s1 (by rw[show(List.take x.length (C.sumTo _ _ _ _ _).1.1).length=_ from ht,ht2];exact zBJ _) x.length (zAM ht.symm);refine⟨?_,aZb h.q s3 _,?_,?_,?_⟩
 ·show C.Bo (C.picks _ _ _ _).2
  unfold C.picks;rw[ht];exact p1
 ·show C.Wb (C.picks _ _ _ _).1
  unfold C.picks;rw[ht];exact p2
 ·show(d.q.set i _).length=_
  rw[zBC,h.ql]
 ·show(C.picks _ _ _ _).1.length=_
  unfold C.picks;rw[C.aCa,ht]
theorem aMn{x y:List Int}(hx:C.Wb x)(hy:C.Wb y)(hl:x.length=y.length){b:C.Bd}(hb:C.Bo b):∀j,j<=x.length->DBo x.length (C.divTo x y b j)
 | 0,_=>⟨hb,aGl C.ibm1,aGl C.ibm1,aDg _ _,aDg _ _⟩
 | j+1,h=>aXa hx hy hl (aMn hx hy hl hb j (by omega)) (by omega)
def WdOff(w:World)(tg:TgF)(g:Nat)(A:Option Addr)(c:Nat)(l:List Int):Prop:=WdAt w tg A c l/\(Value.slice A l.length c).ownBlock≠some g
theorem WdOff.up{w w':World}{B0 g:Nat}{tg tg':TgF}{A:Option Addr}{c:Nat}{l:List Int}(h:WdOff w tg g A c l)(u:Up B0 tg w tg' w'):WdOff w' tg' g A c l:=⟨h.1.up u,h.2⟩
theorem WdOff.put{w:World}{g i:Nat}{tg:TgF}{A:Option Addr}{c:Nat}{l:List Int}(h:WdOff w tg g A c l)(v:Value):WdOff (w.setCell ⟨g,i,none⟩ v) tg g A c l:=
 ⟨⟨h.1.1.setCell (p:=⟨g,i,none⟩) h.2 v,h.1.2⟩,h.2⟩
end
end Go.Proofs.YtchdbhggbdcapaaGreat
