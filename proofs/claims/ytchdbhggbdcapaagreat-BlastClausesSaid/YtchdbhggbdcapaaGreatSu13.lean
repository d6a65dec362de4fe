/- Part. -/
import Derived.Test.YtchdbhggbdcapaaGreatSuLX
import Derived.Test.YtchdbhggbdcapaaGreatSu11
import Derived.Test.YtchdbhggbdcapaaGreatChecked
import Derived.Test.YtchdbhggbdcapaaGreatProg
import Derived.Test.YtchdbhggbdcapaaGreatSu12
set_option linter.unusedVariables false
set_option linter.unusedSimpArgs false
set_option maxRecDepth 100000
set_option maxHeartbeats 16000000
namespace Go.Proofs.YtchdbhggbdcapaaGreat
open _root_.Go.Proofs.Tryz
section
open Go.RowKit
def tputv(tg:TgF)(u:Value):TgF:=fun b=>if u.ownBlock=some b then some .wl else tg b
section
variable {w w0 : World} {B0 Sb n : Nat} {tg : TgF} {v : Sv} {s s0 : S.Sol} {cs0 done : List (List Int)}
theorem SAt.putOwn(h:SAt w B0 Sb tg n v s)(hb:Below B0 w0 w){p:Nat}{l:List Nat}{u:Value}(ho:OwnAt w 3 1 u l.length (snv l))(hn:∀g,u.ownBlock=some g->B0<=g/\tg g=none):
 ∃tg',SAt (w.setCell ⟨v.wa,p,none⟩ u) B0 Sb tg' n v {s with wat:=s.wat.set p l}/\Below B0 w0 (w.setCell ⟨v.wa,p,none⟩ u):=by
 obtain⟨us,u1,u2,u3⟩:=h.wa;refine⟨tputv tg u,h.putWat ho (fun g hg=>⟨(hn g hg).1, .inl (hn g hg).2⟩) (tputv tg u) (fun b t hb=>?_) (fun g hg=>?_) (fun b hb=>?_),hb.setCell (p:=⟨v.wa,p,none⟩) (h.lt _ _ u1.2).1 _⟩
 ·show(if _ then _ else _)=_
  split
  ·rename_i e;rw[(hn b e).2]at hb;cases hb
  ·exact hb
 ·show(if _ then _ else _)=_
  rw[if_pos hg]
 ·by_cases e:u.ownBlock=some b
  ·exact⟨e,by show(if _ then _ else _)=_;rw[if_pos e]⟩
  ·refine absurd ?_ hb
   show(if _ then _ else _)=_
   rw[if_neg e]
theorem PI.store{p:Nat}{W:Int}{old:List Nat}{i:Nat}{kept:List Nat}{ko kv:Value}(h:PI w0 B0 Sb n cs0 done s0 p W old i kept ko kv s tg v w)(hi:old.length<=i):
 ∃tg',PO w0 B0 Sb n cs0 done s0 {s with wat:=s.wat.set (S.pl W) kept} tg' v (w.setCell ⟨v.wa,S.pl W,none⟩ kv):=by
 obtain⟨tg',h1,h2⟩:=h.sat.putOwn h.bl h.kp h.kt (p:=S.pl W);refine⟨tg',h1,h2,⟨h.sm.lim,h.sm.lrn,h.sm.cl⟩,?_⟩;have:=h.lp.fin hi
 show S.Inv n cs0 done s.nxt _
 rw[<-h.nx]at this;exact this
theorem SAt.grown(h:SAt w B0 Sb tg n v s)(hb:Below B0 w0 w){kv vn:Value}{w1:World}(hg:w.grownBy w1 kv.ownBlock)(hkt:∀g,kv.ownBlock=some g->B0<=g/\tg g=none)(hat:vn.ownBlock=kv.ownBlock\/vn.ownBlock=some w.heap.size):
 SAt w1 B0 Sb tg n v s/\Below B0 w0 w1/\(∀g,vn.ownBlock=some g->B0<=g/\tg g=none)/\(∀b t,tg b=some t->w1.heap[b]? =w.heap[b]?):=by
 have hk:∀b t,tg b=some t->w1.heap[b]? =w.heap[b]? :=fun b t hb=>
  hg.block b (h.lt b t hb).2 fun e=>by have:=(hkt b e.symm).2;rw[this]at hb;cases hb
 have hb0:=(h.lt Sb _ h.st.2);refine⟨h.frame hg.size hk,hb.trans (((Below.refl w.heap.size w).mono (by omega)).grown hg (by omega) (fun g hg=>(hkt g hg).1)),fun g hg=>?_,hk⟩;rcases hat with e | e
 ·exact hkt g (by rw[<-e];exact hg)
 ·rw[e]at hg;obtain rfl:=zAH hg;exact⟨by omega,h.none_ (by omega)⟩
theorem SAt.watCell(h:SAt w B0 Sb tg n v s){p:Nat}(hp:p<s.wat.length):(∃A m c,w.cell? ⟨v.wa,p,none⟩=some (.slice A m c))/\w.frozen? ⟨v.wa,p,none⟩=false:=by
 obtain⟨A,c,d1,d2,d3⟩:=h.watch (zAB hp);obtain⟨us,u1,_⟩:=h.wa;exact⟨⟨A,_,c,d1⟩,u1.frz p⟩
theorem bBo{w:World}{e:TypeId}{g o n c:Nat}{xs:List Value}(h:OwnAt w e 1 (.slice (some ⟨g,o,none⟩) n c) n xs){K:Nat}{A:Option Addr}(hA:A=if c=K then some ⟨g,o,none⟩else some ⟨g,o+K,none⟩):
 ∀(j:Nat) (u:Value),(xs.drop K)[j]? =some u->∃ad:Addr,A=some ad/\w.cell? (ad.add j)=some u:=by
 intro j u hj;rw[List.getElem?_drop]at hj;have hlt:=(zAA.1 hj).1;have hl:=h.1;obtain⟨g',o',c',e1,e2,_,e4,_⟩:=aAg h hj;injection e1 with q1 _ q2
 injection q1 with q1
 injection q1 with a1 a2 _
 subst a1 a2 q2;rw[if_neg (by omega)]at hA;refine⟨_,hA,?_⟩;rw[show(⟨g,o+K,none⟩:Addr).add j=⟨g,o+(K+j),none⟩from by simp[Addr.add,Nat.add_assoc]];exact e2
theorem SAt.un{w':World}(h:SAt w B0 Sb tg n v s)(hb:Below w.heap.size w w'):Un tg w tg w':=
 ⟨hb.size,fun b hlt hn=>⟨hn,hb.block b hlt⟩,fun b ht=>⟨ht,hb.block b (h.lt b _ ht).2⟩⟩
structure PM(w0:World)(B0 Sb n:Nat)(s0:S.Sol)(p:Nat)(old:List Nat)(i:Nat)(kept:List Nat)(ko:Value)(kv:Value)(s:S.Sol)(tg:TgF)(v:Sv)(w:World):Prop where
 sat:SAt w B0 Sb tg n v s
 bl:Below B0 w0 w
 sm:S.Sm s0 s
 nx:s.nxt=p+1
 old:OwnAt w 3 1 ko old.length (snv old)
 ot:∀g,ko.ownBlock=some g->tg g=some .wl
 kp:OwnAt w 3 1 kv kept.length (snv kept)
 kt:∀g,kv.ownBlock=some g->B0<=g/\tg g=none
 kl:kept.length<=i
theorem PM.pi{p:Nat}{W:Int}{old:List Nat}{i:Nat}{kept:List Nat}{ko kv:Value}(h:PM w0 B0 Sb n s0 p old i kept ko kv s tg v w)(hlp:S.Lp n cs0 done p W old i kept s):PI w0 B0 Sb n cs0 done s0 p W old i kept ko kv s tg v w:=
 ⟨h.sat,h.bl,h.sm,hlp,h.nx,h.old,h.ot,h.kp,h.kt,h.kl⟩
theorem PI.pm{p:Nat}{W:Int}{old:List Nat}{i:Nat}{kept:List Nat}{ko kv:Value}(h:PI w0 B0 Sb n cs0 done s0 p W old i kept ko kv s tg v w):PM w0 B0 Sb n s0 p old i kept ko kv s tg v w:=
 ⟨h.sat,h.bl,h.sm,h.nx,h.old,h.ot,h.kp,h.kt,h.kl⟩
theorem PM.un{p:Nat}{old:List Nat}{i i':Nat}{kept:List Nat}{ko kv:Value}{w':World}{tg':TgF}{v':Sv}{s':S.Sol}(h:PM w0 B0 Sb n s0 p old i kept ko kv s tg v w)(hs:SAt w' B0 Sb tg' n v' s')(hu:Un tg w tg' w')(hb:Below B0 w w')(hsm:S.Sm s s')(hn:s'.nxt=s.nxt)(hi:i<=i'):PM w0 B0 Sb n s0 p old i' kept ko kv s' tg' v' w':=
 ⟨hs,h.bl.trans hb,h.sm.trans hsm,hn.trans h.nx,h.old.same fun g hg=>(hu.wl g (h.ot g hg)).2,fun g hg=>(hu.wl g (h.ot g hg)).1,h.kp.same fun g hg=>(hu.no g (h.kp.lt g hg) (h.kt g hg).2).2,fun g hg=>⟨(h.kt g hg).1,(hu.no g (h.kp.lt g hg) (h.kt g hg).2).1⟩,zBK h.kl hi⟩
theorem PM.push{p:Nat}{W:Int}{old:List Nat}{i:Nat}{kept:List Nat}{ko kv kv':Value}{w1:World}{E:TypeId}{k:Nat}(h:PI w0 B0 Sb n cs0 done s0 p W old i kept ko kv s tg v w)(ho:OwnAt w1 3 1 kv' (kept.length+1) (snv kept ++ [.int .i64 (k:Int)]))(hg:(w.alloc (.cells #[.int .i64 (k:Int)] E)).grownBy w1 kv.ownBlock)(hat:kv'.ownBlock=kv.ownBlock\/kv'.ownBlock=some (w.heap.size+1)):
 PM w0 B0 Sb n s0 p old (i+1) (kept ++ [k]) ko kv' s tg v w1/\(∀b t,tg b=some t->w1.heap[b]? =w.heap[b]?):=by
 obtain⟨h1,h2,h3,h4,h5,h6⟩:=h.push ho hg hat;exact⟨⟨h1,h2,h.sm,h.nx,h3,h.ot,h4,h5,by rw[zAX];exact Nat.succ_le_succ h.kl⟩,h6⟩
namespace S
theorem Lp.small{p:Nat}{W:Int}{old:List Nat}{i k:Nat}{kept:List Nat}{c:List Int}{b:Int}{j:Nat}(h:Lp n cs0 done p W old i kept s)(hc:s.cls[k]? =some c)(h1:c[1]? =some W)(hj2:2<=j)(hj:c[j]? =some b):(s.wat.getD (pl b) []).length<=s.cls.length:=by
 have hcla:=h.inv.cla c (zAC hc);have lb:=hcla.lit hj;have hbW:pl b≠pl W:=fun e=>by
  have:=aEt e (aAc lb);subst this;have:=hcla.inj h1 hj rfl;omega
 have h2:=h.inv.wat.small lb
 show _<=_
 have e:(s.wat.set (pl W) (kept ++ old.drop i)).getD (pl b) []=s.wat.getD (pl b) []:=by
  rw[getD_setL,if_neg (fun h=>hbW h.1.symm)]
 have h3:((s.wat.set (pl W) (kept ++ old.drop i)).getD (pl b) []).length<=s.cls.length:=h2;rw[e]at h3;exact h3
end S
end
theorem Tryz.sinfoInt:(prog.info? 3).map (fun i=>(i.zero,i.size,i.bytes))=some (some (.int .i64 0),1,8):=by kernel_rfl
theorem Tryz.sinfoInts:(prog.info? 37).map (fun i=>(i.zero,i.size,i.bytes))=some (some (.slice none 0 0),1,24):=by kernel_rfl
theorem aGk{P:Program}(w:World){ops:Array Oper}{rest:List Oper}{o:Oper}{a:Act}{Q:Exit->Act->World->Prop}(hgd:o.guard=none)(sx x:Operand)(t:TypeId)
 (ho:o.op= .call {callee:= .builtin .append,args:= #[sx,x],argTypes:= #[t,t]})
 (e:TypeId) (z:Value) (bytes:Nat) (ht:P.underlying t=some (.slice e)) (hinfo:(P.info? e).map (fun i=>(i.zero,i.size,i.bytes))=some (some z,1,bytes)) (hzs:z.cells.size=1)
 (v:Value) (n:Nat) (xs:List Value) (hs:a.eval sx=v) (hown:OwnAt w e 1 v n xs) (u:Value) (h1:u.oneCell'=true) (E:TypeId)
 (hx:a.eval x= .slice (some ⟨w.heap.size,0,none⟩) 1 1) (hn:n<=1000000000) (hb:bytes<=64)
 (h:∀v' w',OwnAt w' e 1 v' (n+1) (xs ++ [u])->(w.alloc (.cells #[u] E)).grownBy w' v.ownBlock->(v'.ownBlock=v.ownBlock\/v'.ownBlock=some (w.heap.size+1))->wpList P ops Q rest (a.put o.dst v') w'):
 wpList P ops Q (o :: rest) a (w.alloc (.cells #[u] E)).drew:=by
 obtain⟨i,hi,hz,hsz,hby⟩:=info_parts hinfo;have hmul:(n+1)*bytes<=(n+1)*64:=Nat.mul_le_mul_left _ hb;have hc:∀(j:Nat) (u':Value), [u][j]? =some u'->(w.alloc (.cells #[u] E)).drew.cell? ((⟨w.heap.size,0,none⟩:Addr).add j)=some u':=fun j u' hu=>cell_one_new w u E j u' hu
 refine aHb _ hgd sx x t ho e i z 1 bytes ht hi hz hsz hby hzs v n xs hs ((hown.alloc _).drew) _ 1 1 [u] hx rfl hc (by simpa using h1) (by simp only[maxLen];omega) (by omega) ?_;intro v' w' h2 h3 h4;exact h v' w' h2 ⟨h3.1,h3.2,h3.3,h3.size,fun k hk hne=>h3.block k hk hne⟩ (by simpa using h4)
section
variable {w : World} {B0 Sb n : Nat} {tg : TgF} {v : Sv} {s : S.Sol}
theorem SAt.pushTrl(h:SAt w B0 Sb tg n v s){E:TypeId}{l:Int}{v':Value}{w1:World}(ho:OwnAt w1 3 1 v' (s.trl.length+1) (siv s.trl ++ [.int .i64 l]))(hg:(w.alloc (.cells #[.int .i64 l] E)).grownBy w1 v.tr.ownBlock)(hat:v'.ownBlock=v.tr.ownBlock\/v'.ownBlock=some (w.heap.size+1)):
 w1.cell? ⟨Sb,6,none⟩=some v.tr/\w1.frozen? ⟨Sb,6,none⟩=false/\∃tg',SAt (w1.setCell ⟨Sb,6,none⟩ v') B0 Sb tg' n {v with tr:=v'} {s with trl:=s.trl ++ [l]}/\Un tg w tg' (w1.setCell ⟨Sb,6,none⟩ v')/\Below B0 w (w1.setCell ⟨Sb,6,none⟩ v'):=by
 have hW:Below w.heap.size w (w.alloc (.cells #[.int .i64 l] E)):=al0;have hsz:(w.alloc (.cells #[.int .i64 l] E)).heap.size=w.heap.size+1:=by simp
 have hk1:=aFu (B0:=B0) (u':=v') hW h.tr.2 h.lt hg;have hsw:w.heap.size<=w1.heap.size:=by have:=hg.size;omega
 have hnew:v'.ownBlock=v.tr.ownBlock\/∃g,v'.ownBlock=some g/\tg g=none:=hat.imp_right fun e=>⟨_,e,h.none_ (by omega)⟩
 obtain⟨tg',x1,x2,x3⟩:=aGj (t:=Tg.trl) h.tr.2 hnew;have hst1:CRow w1 tg .st 104 Sb (stv n v s.nxt):=h.st.keep (TExt.refl tg) fun b hb=>hk1 b _ hb (by simp)
 have hSb:tg' Sb=some .st:=x1 _ _ h.st.2;have hk2:∀b t,tg b=some t->¬(t= .trl\/t= .st)->(w1.setCell ⟨Sb,6,none⟩ v').heap[b]? =w.heap[b]? :=fun b t hb hne=>
  (Below.heap_setCell w1 ⟨Sb,6,none⟩ v' b fun e=>hne (.inr (by subst e;rw[h.st.2]at hb;exact(zAH hb).symm))).trans (hk1 b t hb fun e=>hne (.inl e))
 have k:=h.keep x1 (fun t=>t= .trl\/t= .st) hk2;have hvlt:∀g,v'.ownBlock=some g->g<w1.heap.size:=ho.lt;have hvS:v'.ownBlock≠some Sb:=fun e=>by have:=x2 _ e;rw[hSb]at this;cases this
 refine⟨hst1.cell rfl,hst1.frz 6,tg',⟨?_,k.va (by simp),k.le (by simp),k.re (by simp),k.ph (by simp),k.we (by simp),h.ri,⟨?_,x2⟩,k.li (by simp),k.wa (by simp) (by simp),k.cl (by simp) (by simp),k.lr (by simp) (by simp),fun b t hb=>?_,h.nv,h.nl,h.nr,h.np,h.nw⟩,⟨by rw[aAf];exact hsw,fun b hb hn=>?_,fun b hb=>?_⟩,?_⟩
 ·exact⟨by have:=(hst1.set 6 v').1;exact this,hSb⟩
 ·show OwnAt _ _ 1 v' (s.trl ++ [l]).length (siv (s.trl ++ [l]))
  rw[aEl,zAX];exact ho.setCell (p:=⟨Sb,6,none⟩) hvS v'
 ·rw[aAf]
  by_cases e:tg' b=tg b
  ·rw[e]at hb;have:=h.lt b t hb;omega
  ·obtain⟨e1,e2,e3⟩:=x3 b e;refine⟨?_,hvlt b e1⟩;rcases hat with q | q
   ·rw[q]at e1;have:=h.tr.2 b e1;rw[e2]at this;cases this
   ·rw[q]at e1;obtain rfl:=zAH e1;have:=h.lt Sb _ h.st.2;omega
 ·have hne:tg' b=tg b:=by
   apply zAI;intro e;obtain⟨e1,_,_⟩:=x3 b e;rcases hat with q | q
   ·rw[q]at e1;have:=h.tr.2 b e1;rw[hn]at this;cases this
   ·rw[q]at e1;obtain rfl:=zAH e1;omega
  refine⟨hne.trans hn,(Below.heap_setCell w1 ⟨Sb,6,none⟩ v' b fun e=>by subst e;rw[h.st.2]at hn;cases hn).trans ((hg.block b (by omega) fun e=>by have:=h.tr.2 b e.symm;rw[hn]at this;cases this).trans (hW.block b hb))⟩
 ·exact⟨x1 _ _ hb,hk2 b _ hb (by simp)⟩
 ·have hb0:=h.lt Sb _ h.st.2;have h1:Below B0 w w1:=(hW.mono (by omega)).grown hg (by omega) (fun g hg=>(h.lt g _ (h.tr.2 g hg)).1);exact h1.setCell (p:=⟨Sb,6,none⟩) hb0.1 v'
def bBp(w:World)(B0 Sb n:Nat)(tg:TgF)(s':S.Sol)(e:Ending)(w':World):Prop:=
 e= .returned (.tuple #[])/\∃tg' v',SAt w' B0 Sb tg' n v' s'/\Un tg w tg' w'/\Below B0 w w'
theorem aFg(h:SAt w B0 Sb tg n v s)(hn:n<=4000){l:Int}(hl:S.isLit n l=true)(hsz:s.trl.length<=4000)(hls:s.lim.length<=4000)(r:Int):
 Calls prog 97 #[.pointer (some ⟨Sb,0,none⟩), .int .i64 l, .int .i64 r] w (bBp w B0 Sb n tg (s.tell l r)):=by
 obtain⟨h1,h2,h3⟩:=S.aB1.1 hl;obtain⟨k1,k2⟩:=S.aBh hl;obtain⟨k,hk⟩:∃k,l.natAbs=k:=⟨_,rfl⟩;have con:=aHn l (by omega) (by omega) w;rw[hk]at con k1 k2;have Hcon:=kH con;have HS:=kH h;have Hk:=kH hk;have c3:=h.c3;have f3:=h.va.frz k;have kv:=h.cval k2;clear con h hk hl;have hput:S.put s.val l=if l<0 then(s.val.set k 1).set k (-1)else s.val.set k 1:=by
  unfold S.put S.sgn;rw[Hk.out]
  by_cases hneg:l<0
  ·rw[if_pos hneg,if_neg (by omega),List.set_set]
  ·rw[if_neg hneg,if_pos (by omega)]
 have Hput:=kH hput;clear hput;obtain⟨Af,cf,hli⟩:=HS.out.li.1.form;obtain⟨At,ct,htr⟩:=HS.out.tr.1.form;have Hli:=kH hli;have Htr:=kH htr;clear hli htr
 by_cases hneg:l<0
 ·go_enter func97,ntmps97
  go_wp2_with fail
  refine Hcon.out.mono ?_;rintro e w' ⟨rfl,rfl⟩
  go_upto_region 2 with(fail)
  clear c3 f3 kv;have Ha:=kH (HS.out.setVal k 1);have Hau:=kH (show Un tg w tg (w.setCell ⟨v.va,k,none⟩ (.int .i64 1))/\Below B0 w (w.setCell ⟨v.va,k,none⟩ (.int .i64 1))from⟨Un.set HS.out.va.2 (by simp) _ _,(Below.refl _ _).setCell (p:=⟨v.va,k,none⟩) (HS.out.lt _ _ HS.out.va.2).1 _⟩);obtain⟨X,hX⟩:∃X,X=w.setCell ⟨v.va,k,none⟩ (.int .i64 1):=⟨_,rfl⟩;rw[<-hX]at Ha Hau⊢;clear hX;have c3:=Ha.out.c3;have f3:=Ha.out.va.frz k;have kv:=Ha.out.cval k2
  go_upto_region 4 with(fail)
  clear c3 f3 kv;have Hb:=kH (Ha.out.setVal k (-1));have Hbu:=kH (show Un tg w tg (X.setCell ⟨v.va,k,none⟩ (.int .i64 (-1)))/\Below B0 w (X.setCell ⟨v.va,k,none⟩ (.int .i64 (-1)))from⟨Hau.out.1.trans (Un.set Ha.out.va.2 (by simp) _ _),Hau.out.2.setCell (p:=⟨v.va,k,none⟩) (Ha.out.lt _ _ Ha.out.va.2).1 _⟩);obtain⟨Y,hY⟩:∃Y,Y=X.setCell ⟨v.va,k,none⟩ (.int .i64 (-1)):=⟨_,rfl⟩;rw[<-hY]at Hb Hbu⊢;clear hY Ha Hau;have HB:=kH (show SAt Y B0 Sb tg n v {s with val:=S.put s.val l}from by rw[Hput.out,if_pos hneg];exact Hb.out);clear Hb;have c4:=HB.out.c4;have c5:=HB.out.c5;have c7:Y.cell? ⟨Sb,7,none⟩=some (.slice Af s.lim.length cf):=by rw[HB.out.c7,Hli.out]
  have f4:=HB.out.le.frz k;have f5:=HB.out.re.frz k;have k4:=HB.out.clvl k2;have k5:=HB.out.crsn k2;have HC:=kH (HB.out.setLvl k s.lim.length);have HD:=kH (HB.out.setRsn k r);have d5:=HC.out.c5;have d7:(Y.setCell ⟨v.le,k,none⟩ (.int .i64 (s.lim.length:Int))).cell? ⟨Sb,7,none⟩=some (.slice Af s.lim.length cf):=by rw[HC.out.c7,Hli.out]
  have df:=HC.out.re.frz k;have dk:=HC.out.crsn k2;have e4:=HD.out.c4;have e7:(Y.setCell ⟨v.re,k,none⟩ (.int .i64 r)).cell? ⟨Sb,7,none⟩=some (.slice Af s.lim.length cf):=by rw[HD.out.c7,Hli.out]
  have ef:=HD.out.le.frz k;have ek:=HD.out.clvl k2
  go_region
  clear c4 c5 c7 f4 f5 k4 k5 d5 d7 df dk e4 e7 ef ek HD;have HE:=kH (HC.out.setRsn k r);have Heu:=kH (show Un tg w tg ((Y.setCell ⟨v.le,k,none⟩ (.int .i64 (s.lim.length:Int))).setCell ⟨v.re,k,none⟩ (.int .i64 r))/\Below B0 w ((Y.setCell ⟨v.le,k,none⟩ (.int .i64 (s.lim.length:Int))).setCell ⟨v.re,k,none⟩ (.int .i64 r))from
   ⟨(Hbu.out.1.trans (Un.set HB.out.le.2 (by simp) _ _)).trans (Un.set HC.out.re.2 (by simp) _ _),(Hbu.out.2.setCell (p:=⟨v.le,k,none⟩) (HB.out.lt _ _ HB.out.le.2).1 _).setCell (p:=⟨v.re,k,none⟩) (HC.out.lt _ _ HC.out.re.2).1 _⟩)
  obtain⟨Z,hZ⟩:∃Z,Z=(Y.setCell ⟨v.le,k,none⟩ (.int .i64 (s.lim.length:Int))).setCell ⟨v.re,k,none⟩ (.int .i64 r):=⟨_,rfl⟩;rw[<-hZ]at HE Heu⊢;clear hZ HC HB Hbu;have c6:Z.cell? ⟨Sb,6,none⟩=some (.slice At s.trl.length ct):=by rw[HE.out.c6,Htr.out]
  have hown:OwnAt Z 3 1 (.slice At s.trl.length ct) s.trl.length (siv s.trl):=by have:=HE.out.tr.1;rw[Htr.out]at this;exact this
  have Hown:=kH hown;clear hown;have c6':(Z.alloc (.cells #[.int .i64 l] 3)).cell? ⟨Sb,6,none⟩=some (.slice At s.trl.length ct):=((al0).cell (p:=⟨Sb,6,none⟩) (HE.out.lt _ _ HE.out.st.2).2).trans c6
  go_wp2_with (at_builtin;go_loud (refine aGk _ rfl (.tmp 45) (.tmp 47) 37 rfl 3 (.int .i64 0) 8 underlying37 Tryz.sinfoInt rfl _ s.trl.length (siv s.trl) rfl Hown.out (.int .i64 l) rfl 3 rfl (by omega) (by omega) ?_);intro v' w4 hown' hgr hat;obtain⟨Av,cv,hv⟩:=hown'.form;subst hv;obtain⟨q1,q2,tg',q3,q4,q5⟩:=HE.out.pushTrl (v':= .slice Av (s.trl.length+1) cv) (w1:=w4) (E:=3) (l:=l) hown' (by rw[show v.tr=_ from Htr.out];exact hgr) (by rw[show v.tr=_ from Htr.out];exact hat);have Hq:=kH (show SAt (w4.setCell ⟨Sb,6,none⟩ (.slice Av (s.trl.length+1) cv)) B0 Sb tg' n {v with tr:= .slice Av (s.trl.length+1) cv} (s.tell l r)/\Un tg w tg' (w4.setCell ⟨Sb,6,none⟩ (.slice Av (s.trl.length+1) cv))/\Below B0 w (w4.setCell ⟨Sb,6,none⟩ (.slice Av (s.trl.length+1) cv))from⟨by have:=q3;unfold S.Sol.tell;rw[Hk.out];exact this,Heu.out.1.trans q4,Heu.out.2.trans q5⟩);clear q3 q4 q5 hown' hgr hat)
  refine bodyPost_end (results_none rfl _ _ _) rfl ?_;exact⟨rfl,tg',_,Hq.out.1,Hq.out.2.1,Hq.out.2.2⟩
 ·go_enter func97,ntmps97
  go_wp2_with fail
  refine Hcon.out.mono ?_;rintro e w' ⟨rfl,rfl⟩
  go_upto_region 2 with(fail)
  clear c3 f3 kv;have Ha:=kH (HS.out.setVal k 1);have Hau:=kH (show Un tg w tg (w.setCell ⟨v.va,k,none⟩ (.int .i64 1))/\Below B0 w (w.setCell ⟨v.va,k,none⟩ (.int .i64 1))from⟨Un.set HS.out.va.2 (by simp) _ _,(Below.refl _ _).setCell (p:=⟨v.va,k,none⟩) (HS.out.lt _ _ HS.out.va.2).1 _⟩);obtain⟨Y,hX⟩:∃Y,Y=w.setCell ⟨v.va,k,none⟩ (.int .i64 1):=⟨_,rfl⟩;rw[<-hX]at Ha Hau⊢;clear hX
  go_upto_region 4 with(fail)
  have Hb:=Ha;have Hbu:=Hau;clear Ha Hau;have HB:=kH (show SAt Y B0 Sb tg n v {s with val:=S.put s.val l}from by rw[Hput.out,if_neg (show¬l<0 by omega)];exact Hb.out);clear Hb;have c4:=HB.out.c4;have c5:=HB.out.c5;have c7:Y.cell? ⟨Sb,7,none⟩=some (.slice Af s.lim.length cf):=by rw[HB.out.c7,Hli.out]
  have f4:=HB.out.le.frz k;have f5:=HB.out.re.frz k;have k4:=HB.out.clvl k2;have k5:=HB.out.crsn k2;have HC:=kH (HB.out.setLvl k s.lim.length);have HD:=kH (HB.out.setRsn k r);have d5:=HC.out.c5;have d7:(Y.setCell ⟨v.le,k,none⟩ (.int .i64 (s.lim.length:Int))).cell? ⟨Sb,7,none⟩=some (.slice Af s.lim.length cf):=by rw[HC.out.c7,Hli.out]
  have df:=HC.out.re.frz k;have dk:=HC.out.crsn k2;have e4:=HD.out.c4;have e7:(Y.setCell ⟨v.re,k,none⟩ (.int .i64 r)).cell? ⟨Sb,7,none⟩=some (.slice Af s.lim.length cf):=by rw[HD.out.c7,Hli.out]
  have ef:=HD.out.le.frz k;have ek:=HD.out.clvl k2
  go_region
  clear c4 c5 c7 f4 f5 k4 k5 d5 d7 df dk e4 e7 ef ek HD;have HE:=kH (HC.out.setRsn k r);have Heu:=kH (show Un tg w tg ((Y.setCell ⟨v.le,k,none⟩ (.int .i64 (s.lim.length:Int))).setCell ⟨v.re,k,none⟩ (.int .i64 r))/\Below B0 w ((Y.setCell ⟨v.le,k,none⟩ (.int .i64 (s.lim.length:Int))).setCell ⟨v.re,k,none⟩ (.int .i64 r))from
   ⟨(Hbu.out.1.trans (Un.set HB.out.le.2 (by simp) _ _)).trans (Un.set HC.out.re.2 (by simp) _ _),(Hbu.out.2.setCell (p:=⟨v.le,k,none⟩) (HB.out.lt _ _ HB.out.le.2).1 _).setCell (p:=⟨v.re,k,none⟩) (HC.out.lt _ _ HC.out.re.2).1 _⟩)
  obtain⟨Z,hZ⟩:∃Z,Z=(Y.setCell ⟨v.le,k,none⟩ (.int .i64 (s.lim.length:Int))).setCell ⟨v.re,k,none⟩ (.int .i64 r):=⟨_,rfl⟩;rw[<-hZ]at HE Heu⊢;clear hZ HC HB Hbu;have c6:Z.cell? ⟨Sb,6,none⟩=some (.slice At s.trl.length ct):=by rw[HE.out.c6,Htr.out]
  have hown:OwnAt Z 3 1 (.slice At s.trl.length ct) s.trl.length (siv s.trl):=by have:=HE.out.tr.1;rw[Htr.out]at this;exact this
  have Hown:=kH hown;clear hown;have c6':(Z.alloc (.cells #[.int .i64 l] 3)).cell? ⟨Sb,6,none⟩=some (.slice At s.trl.length ct):=((al0).cell (p:=⟨Sb,6,none⟩) (HE.out.lt _ _ HE.out.st.2).2).trans c6
  go_wp2_with (at_builtin;go_loud (refine aGk _ rfl (.tmp 45) (.tmp 47) 37 rfl 3 (.int .i64 0) 8 underlying37 Tryz.sinfoInt rfl _ s.trl.length (siv s.trl) rfl Hown.out (.int .i64 l) rfl 3 rfl (by omega) (by omega) ?_);intro v' w4 hown' hgr hat;obtain⟨Av,cv,hv⟩:=hown'.form;subst hv;obtain⟨q1,q2,tg',q3,q4,q5⟩:=HE.out.pushTrl (v':= .slice Av (s.trl.length+1) cv) (w1:=w4) (E:=3) (l:=l) hown' (by rw[show v.tr=_ from Htr.out];exact hgr) (by rw[show v.tr=_ from Htr.out];exact hat);have Hq:=kH (show SAt (w4.setCell ⟨Sb,6,none⟩ (.slice Av (s.trl.length+1) cv)) B0 Sb tg' n {v with tr:= .slice Av (s.trl.length+1) cv} (s.tell l r)/\Un tg w tg' (w4.setCell ⟨Sb,6,none⟩ (.slice Av (s.trl.length+1) cv))/\Below B0 w (w4.setCell ⟨Sb,6,none⟩ (.slice Av (s.trl.length+1) cv))from⟨by have:=q3;unfold S.Sol.tell;rw[Hk.out];exact this,Heu.out.1.trans q4,Heu.out.2.trans q5⟩);clear q3 q4 q5 hown' hgr hat)
  refine bodyPost_end (results_none rfl _ _ _) rfl ?_;exact⟨rfl,tg',_,Hq.out.1,Hq.out.2.1,Hq.out.2.2⟩
end
section
variable {w : World} {B0 Sb n : Nat} {tg : TgF} {v : Sv} {s : S.Sol}
theorem SAt.pushCls(h:SAt w B0 Sb tg n v s){E:TypeId}{c:List Int}{u v':Value}{us:List Value}{w1:World}(hu:OwnAt w 3 1 u c.length (siv c))(hun:∀g,u.ownBlock=some g->B0<=g/\tg g=none)
 (hc1:COwn w tg .cls 37 v.cl s.cls.length us) (hc2:CEls w tg .cl us (s.cls.map siv))
 (ho:OwnAt w1 37 1 v' (s.cls.length+1) (us ++ [u])) (hg:(w.alloc (.cells #[u] E)).grownBy w1 v.cl.ownBlock) (hat:v'.ownBlock=v.cl.ownBlock\/v'.ownBlock=some (w.heap.size+1)):
 w1.cell? ⟨Sb,0,none⟩=some v.cl/\w1.frozen? ⟨Sb,0,none⟩=false/\∃tg',SAt (w1.setCell ⟨Sb,0,none⟩ v') B0 Sb tg' n {v with cl:=v'} {s with cls:=s.cls ++ [c]}/\Below B0 w (w1.setCell ⟨Sb,0,none⟩ v'):=by
 have hW:Below w.heap.size w (w.alloc (.cells #[u] E)):=al0;have hsz:(w.alloc (.cells #[u] E)).heap.size=w.heap.size+1:=by simp
 have hk1:=aFu (B0:=B0) (u':=v') hW hc1.2 h.lt hg;have hsw:w.heap.size<=w1.heap.size:=by have:=hg.size;omega
 have hnew:v'.ownBlock=v.cl.ownBlock\/∃g,v'.ownBlock=some g/\tg g=none:=hat.imp_right fun e=>⟨_,e,h.none_ (by omega)⟩
 obtain⟨tg1,x1,x2,x3⟩:=aGj (t:=Tg.cls) hc1.2 hnew;have hu1:∀g,u.ownBlock=some g->tg1 g=none:=fun g hg=>by
  apply zAI;intro hne;have e:tg1 g≠tg g:=by rw[(hun g hg).2];exact hne
  obtain⟨e1,_,_⟩:=x3 g e;rcases hat with q | q
  ·rw[q]at e1;have:=hc1.2 g e1;rw[(hun g hg).2]at this;cases this
  ·rw[q]at e1;obtain rfl:=zAH e1;have:=hu.lt _ hg;omega
 obtain⟨tg',y1,y2,y3⟩:=aGj (tg:=tg1) (t:=Tg.cl s.cls.length) (u:= .slice none 0 0) (u':=u) (fun g hg=>by cases hg) (by
  cases e:u.ownBlock with
  | none=>exact .inl rfl
  | some g=>exact .inr ⟨g,rfl,hu1 g e⟩)
 have hx:TExt tg tg':=fun b t hb=>y1 b t (x1 b t hb)
 have hst1:CRow w1 tg .st 104 Sb (stv n v s.nxt):=h.st.keep (TExt.refl tg) fun b hb=>hk1 b _ hb (by simp)
 have hSb:tg' Sb=some .st:=hx _ _ h.st.2;have hk2:∀b t,tg b=some t->¬(t= .cls\/t= .st)->(w1.setCell ⟨Sb,0,none⟩ v').heap[b]? =w.heap[b]? :=fun b t hb hne=>
  (Below.heap_setCell w1 ⟨Sb,0,none⟩ v' b fun e=>hne (.inr (by subst e;rw[h.st.2]at hb;exact(zAH hb).symm))).trans (hk1 b t hb fun e=>hne (.inl e))
 have k:=h.keep hx (fun t=>t= .cls\/t= .st) hk2;have hvlt:∀g,v'.ownBlock=some g->g<w1.heap.size:=ho.lt;have hvS:v'.ownBlock≠some Sb:=fun e=>by have:=y1 _ _ (x2 _ e);rw[hSb]at this;cases this
 have husame:∀g,u.ownBlock=some g->(w1.setCell ⟨Sb,0,none⟩ v').heap[g]? =w.heap[g]? :=fun g hgu=>by
  have hlt:=hu.lt g hgu;have hn:=(hun g hgu).2;refine(Below.heap_setCell w1 ⟨Sb,0,none⟩ v' g fun e=>by subst e;rw[h.st.2]at hn;cases hn).trans ((hg.block g (by omega) fun e=>by have:=hc1.2 g e.symm;rw[hn]at this;cases this).trans (hW.block g hlt))
 refine⟨hst1.cell rfl,hst1.frz 0,tg',⟨?_,k.va (by simp),k.le (by simp),k.re (by simp),k.ph (by simp),k.we (by simp),h.ri,k.tr (by simp),k.li (by simp),k.wa (by simp) (by simp),⟨us ++ [u],⟨?_,fun g hg=>y1 _ _ (x2 g hg)⟩,?_⟩,k.lr (by simp) (by simp),fun b t hb=>?_,h.nv,h.nl,h.nr,h.np,h.nw⟩,?_⟩
 ·exact⟨by have:=(hst1.set 0 v').1;exact this,hSb⟩
 ·show OwnAt _ _ 1 v' (s.cls ++ [c]).length (us ++ [u])
  rw[zAX];exact ho.setCell (p:=⟨Sb,0,none⟩) hvS v'
 ·refine⟨by simp[hc2.1],fun q d hd=>?_⟩;have hd':((s.cls ++ [c]).map siv)[q]? =some d:=hd;rw[zBS]at hd';rcases Nat.lt_or_ge q (s.cls.map siv).length with hq | hq
  ·rw[zAE hq]at hd';obtain⟨u',hu',ho'⟩:=hc2.2 q d hd';refine⟨u',by rw[zAE (by have:=hc2.1;omega)];exact hu',ho'.keep hx fun b hb=>hk2 b _ hb (by simp)⟩
  ·rw[zAF hq]at hd';have hq2:=(zAA.1 hd').1;simp at hq2 hq;have e:q=s.cls.length:=by omega
   subst e;simp at hd';subst hd';have hul:us.length=s.cls.length:=by have:=hc2.1;simpa using this
   refine⟨u,by rw[zAF (by omega),hul];simp,?_,fun g hg=>y2 g hg⟩;rw[aBu];exact hu.same husame
 ·rw[aAf]
  by_cases e:tg' b=tg1 b
  ·rw[e]at hb
   by_cases e':tg1 b=tg b
   ·rw[e']at hb;have:=h.lt b t hb;omega
   ·obtain⟨e1,e2,e3⟩:=x3 b e';refine⟨?_,hvlt b e1⟩;rcases hat with q | q
    ·rw[q]at e1;have:=hc1.2 b e1;rw[e2]at this;cases this
    ·rw[q]at e1;obtain rfl:=zAH e1;have:=h.lt Sb _ h.st.2;omega
  ·obtain⟨e1,e2,e3⟩:=y3 b e;exact⟨(hun b e1).1,zAL (hu.lt b e1) hsw⟩
 ·have hb0:=h.lt Sb _ h.st.2;have h1:Below B0 w w1:=(hW.mono (by omega)).grown hg (by omega) (fun g hg=>(h.lt g _ (hc1.2 g hg)).1);exact h1.setCell (p:=⟨Sb,0,none⟩) hb0.1 v'
theorem SAt.pushLrn(h:SAt w B0 Sb tg n v s){E:TypeId}{c:List Int}{u v':Value}{us:List Value}{w1:World}(hu:OwnAt w 3 1 u c.length (siv c))(hun:∀g,u.ownBlock=some g->B0<=g/\tg g=none)
 (hc1:COwn w tg .lrn 37 v.lr s.lrn.length us) (hc2:CEls w tg (fun _=> .wl) us (s.lrn.map siv))
 (ho:OwnAt w1 37 1 v' (s.lrn.length+1) (us ++ [u])) (hg:(w.alloc (.cells #[u] E)).grownBy w1 v.lr.ownBlock) (hat:v'.ownBlock=v.lr.ownBlock\/v'.ownBlock=some (w.heap.size+1)):
 w1.cell? ⟨Sb,1,none⟩=some v.lr/\w1.frozen? ⟨Sb,1,none⟩=false/\∃tg',SAt (w1.setCell ⟨Sb,1,none⟩ v') B0 Sb tg' n {v with lr:=v'} {s with lrn:=s.lrn ++ [c]}/\Below B0 w (w1.setCell ⟨Sb,1,none⟩ v')/\
  ∀b,b<w.heap.size->tg b=none->u.ownBlock≠some b->tg' b=none/\(w1.setCell ⟨Sb,1,none⟩ v').heap[b]? =w.heap[b]? :=by
 have hW:Below w.heap.size w (w.alloc (.cells #[u] E)):=al0;have hsz:(w.alloc (.cells #[u] E)).heap.size=w.heap.size+1:=by simp
 have hk1:=aFu (B0:=B0) (u':=v') hW hc1.2 h.lt hg;have hsw:w.heap.size<=w1.heap.size:=by have:=hg.size;omega
 have hnew:v'.ownBlock=v.lr.ownBlock\/∃g,v'.ownBlock=some g/\tg g=none:=hat.imp_right fun e=>⟨_,e,h.none_ (by omega)⟩
 obtain⟨tg1,x1,x2,x3⟩:=aGj (t:=Tg.lrn) hc1.2 hnew;have hu1:∀g,u.ownBlock=some g->tg1 g=none:=fun g hg=>by
  apply zAI;intro hne;have e:tg1 g≠tg g:=by rw[(hun g hg).2];exact hne
  obtain⟨e1,_,_⟩:=x3 g e;rcases hat with q | q
  ·rw[q]at e1;have:=hc1.2 g e1;rw[(hun g hg).2]at this;cases this
  ·rw[q]at e1;obtain rfl:=zAH e1;have:=hu.lt _ hg;omega
 obtain⟨tg',y1,y2,y3⟩:=aGj (tg:=tg1) (t:=Tg.wl) (u:= .slice none 0 0) (u':=u) (fun g hg=>by cases hg) (by
  cases e:u.ownBlock with
  | none=>exact .inl rfl
  | some g=>exact .inr ⟨g,rfl,hu1 g e⟩)
 have hx:TExt tg tg':=fun b t hb=>y1 b t (x1 b t hb)
 have hst1:CRow w1 tg .st 104 Sb (stv n v s.nxt):=h.st.keep (TExt.refl tg) fun b hb=>hk1 b _ hb (by simp)
 have hSb:tg' Sb=some .st:=hx _ _ h.st.2;have hk2:∀b t,tg b=some t->¬(t= .lrn\/t= .st)->(w1.setCell ⟨Sb,1,none⟩ v').heap[b]? =w.heap[b]? :=fun b t hb hne=>
  (Below.heap_setCell w1 ⟨Sb,1,none⟩ v' b fun e=>hne (.inr (by subst e;rw[h.st.2]at hb;exact(zAH hb).symm))).trans (hk1 b t hb fun e=>hne (.inl e))
 have k:=h.keep hx (fun t=>t= .lrn\/t= .st) hk2;have hvlt:∀g,v'.ownBlock=some g->g<w1.heap.size:=ho.lt;have hvS:v'.ownBlock≠some Sb:=fun e=>by have:=y1 _ _ (x2 _ e);rw[hSb]at this;cases this
 have hno:∀b,b<w.heap.size->tg b=none->(w1.setCell ⟨Sb,1,none⟩ v').heap[b]? =w.heap[b]? :=fun g hlt hn=>
  (Below.heap_setCell w1 ⟨Sb,1,none⟩ v' g fun e=>by subst e;rw[h.st.2]at hn;cases hn).trans ((hg.block g (by omega) fun e=>by have:=hc1.2 g e.symm;rw[hn]at this;cases this).trans (hW.block g hlt))
 have husame:∀g,u.ownBlock=some g->(w1.setCell ⟨Sb,1,none⟩ v').heap[g]? =w.heap[g]? :=fun g hgu=>hno g (hu.lt g hgu) (hun g hgu).2
 refine⟨hst1.cell rfl,hst1.frz 1,tg',⟨?_,k.va (by simp),k.le (by simp),k.re (by simp),k.ph (by simp),k.we (by simp),h.ri,k.tr (by simp),k.li (by simp),k.wa (by simp) (by simp),k.cl (by simp) (by simp),⟨us ++ [u],⟨?_,fun g hg=>y1 _ _ (x2 g hg)⟩,?_⟩,fun b t hb=>?_,h.nv,h.nl,h.nr,h.np,h.nw⟩,?_,fun b hb hn hne=>⟨?_,hno b hb hn⟩⟩
 ·exact⟨by have:=(hst1.set 1 v').1;exact this,hSb⟩
 ·show OwnAt _ _ 1 v' (s.lrn ++ [c]).length (us ++ [u])
  rw[zAX];exact ho.setCell (p:=⟨Sb,1,none⟩) hvS v'
 ·refine⟨by simp[hc2.1],fun q d hd=>?_⟩;have hd':((s.lrn ++ [c]).map siv)[q]? =some d:=hd;rw[zBS]at hd';rcases Nat.lt_or_ge q (s.lrn.map siv).length with hq | hq
  ·rw[zAE hq]at hd';obtain⟨u',hu',ho'⟩:=hc2.2 q d hd';refine⟨u',by rw[zAE (by have:=hc2.1;omega)];exact hu',ho'.keep hx fun b hb=>hk2 b _ hb (by simp)⟩
  ·rw[zAF hq]at hd';have hq2:=(zAA.1 hd').1;simp at hq2 hq;have e:q=s.lrn.length:=by omega
   subst e;simp at hd';subst hd';have hul:us.length=s.lrn.length:=by have:=hc2.1;simpa using this
   refine⟨u,by rw[zAF (by omega),hul];simp,?_,fun g hg=>y2 g hg⟩;rw[aBu];exact hu.same husame
 ·rw[aAf]
  by_cases e:tg' b=tg1 b
  ·rw[e]at hb
   by_cases e':tg1 b=tg b
   ·rw[e']at hb;have:=h.lt b t hb;omega
   ·obtain⟨e1,e2,e3⟩:=x3 b e';refine⟨?_,hvlt b e1⟩;rcases hat with q | q
    ·rw[q]at e1;have:=hc1.2 b e1;rw[e2]at this;cases this
    ·rw[q]at e1;obtain rfl:=zAH e1;have:=h.lt Sb _ h.st.2;omega
  ·obtain⟨e1,e2,e3⟩:=y3 b e;exact⟨(hun b e1).1,zAL (hu.lt b e1) hsw⟩
 ·have hb0:=h.lt Sb _ h.st.2;have h1:Below B0 w w1:=(hW.mono (by omega)).grown hg (by omega) (fun g hg=>(h.lt g _ (hc1.2 g hg)).1);exact h1.setCell (p:=⟨Sb,1,none⟩) hb0.1 v'
 ·have e1:tg1 b=tg b:=by
   apply zAI;intro e;obtain⟨e1,_,_⟩:=x3 b e;rcases hat with q | q
   ·rw[q]at e1;have:=hc1.2 b e1;rw[hn]at this;cases this
   ·rw[q]at e1;obtain rfl:=zAH e1;omega
  have e2:tg' b=tg1 b:=by
   apply zAI;intro e;exact hne (y3 b e).1
  rw[e2,e1,hn]
end
theorem aKp{P:Program}{t e:TypeId}(ht:P.underlying t=some (.slice e))(A:Option Addr)(n c:Nat)(w:World)(d:Nat):(Op.equalIn (d+1) t (.slice A n c) (.slice none 0 0)).run P w= .ok A.isNone w:=by
 cases A <;> simp[Op.equalIn,run_underlying ht]
theorem aJs{P:Program}{t e:TypeId}(ht:P.underlying t=some (.slice e))(A:Option Addr)(n c:Nat)(w:World):(binOp .eql t (.slice A n c) (.slice none 0 0)).run P w= .ok (.bool A.isNone) w:=by
 have h:=aKp ht A n c w 9999;simp only[binOp];simp[Op.equal,show(Op.equalIn Op.maxDepth t (.slice A n c) (.slice none 0 0)).run P w=_ from h]
def aVp(e:TypeId)(s:Nat)(W:World)(n:Nat)(us:List Value)(en:Ending)(W':World):Prop:=
 ∃v,en= .returned v/\OwnAt W' e s v n us/\Below W.heap.size W W'/\∀g,v.ownBlock=some g->W.heap.size<=g
theorem aHo(W:World)(e:TypeId)(s:Nat):OwnAt (W.alloc (.cells #[] e)) e s (.slice (some ⟨W.heap.size,0,none⟩) 0 0) 0 []:=⟨by simp, .inr ⟨W.heap.size,0,0, #[],rfl,heap_alloc_new W _,zBJ _,by simp[maxLen],by simp,fun j u h=>by simp at h⟩⟩
theorem aIy{A:Option Addr}{n c:Nat}{us:List Value}{W:World}(hl:us.length=n*1)(hsrc:∀j u,us[j]? =some u->∃ad:Addr,A=some ad/\W.cell? (ad.add j)=some u)(h1:∀u∈us,u.oneCell'=true)(hlt:∀ad,us≠ []->A=some ad->ad.block<W.heap.size)(hn:n<=900000000):
 Calls prog 91 #[.slice A n c] W (aVp 3 1 W n us):=by
 have q0:=aJs underlying37 A n c W;cases A with
 | none=>
  have hu:us= []:=by
   cases us with
   | nil=>rfl
   | cons u l=>obtain⟨ad,e,_⟩:=hsrc 0 u rfl;cases e
  subst hu;obtain rfl:n=0:=by simp only[List.length_nil]at hl;omega
  rw[show(none:Option Addr).isNone=true from rfl]at q0;clear hsrc h1 hlt hl
  go_enter func91,ntmps91
  go_wp2;go_ret;exact⟨_,rfl,OwnAt.nil_ _ _ _,Below.refl _ _,fun g h=>by simp[Value.ownBlock]at h⟩
 | some a=>
  rw[show(some a:Option Addr).isNone=false from rfl]at q0;have Hsrc:=kH (show∀j u,us[j]? =some u->∃ad:Addr,(some a:Option Addr)=some ad/\(W.alloc (.cells #[] 3)).cell? (ad.add j)=some u from fun j u hu=>by
   obtain⟨ad,e,hc⟩:=hsrc j u hu;cases e;refine⟨a,rfl,?_⟩;have hb:a.block<W.heap.size:=hlt a (fun e=>by rw[e]at hu;simp at hu) rfl;have hbl:(a.add j).block=a.block:=by unfold Addr.add;split <;> rfl
   unfold World.cell? at hc⊢;rw[Below.heap_alloc W _ _ (by rw[hbl];exact hb)];exact hc)
  have H1:=kH h1;have Hl:=kH hl;clear hsrc h1 hlt hl;have hn2:0+n<=1000000000:=by omega
  go_enter func91,ntmps91
  go_wp2_with (at_builtin;refine aBv _ rfl (.tmp 5) (.tmp 6) 37 rfl 3 (.int .i64 0) 1 8 underlying37 Tryz.sinfoInt rfl (by decide) (.slice (some ⟨W.heap.size,0,none⟩) 0 0) 0 [] rfl (aHo W 3 1) (some a) n c us rfl Hl.out Hsrc.out H1.out hn2 (by decide) ?_;intro v' w3 hown' hgr hat;have Hown:=kH hown';have Hgr:=kH hgr;have Hat:=kH hat;clear hown' hgr hat)
  go_ret;have hb:Below W.heap.size W (W.alloc (.cells #[] 3)):=al0;refine⟨v',rfl,?_,hb.grown Hgr.out hb.size (fun g hg=>by simp[Value.ownBlock]at hg;omega),fun g hg=>?_⟩
  ·have:=Hown.out;rw[zBH,List.nil_append]at this;exact this
  ·rcases Hat.out with e | e
   ·rw[e]at hg;simp[Value.ownBlock]at hg;omega
   ·rw[e]at hg;simp at hg;omega
section
variable {P : Program} (w : World)
theorem aPp{ops:Array Oper}{o:Oper}{a:Act}{K:Act->World->Prop}{Q:Exit->Act->World->Prop}{E:Prop}(hgd:o.guard=none)(f:FuncId)(hf:∀args W,Sem.run P (callFunc f args) W= .ok (.enter f args) W)(x:Operand)(t:TypeId)
 (ho:o.op= .call {callee:= .value (.func f),args:= #[x],argTypes:= #[t]}) (u:Value) (hx:a.eval x=u) {R:Ending->World->Prop}
 (hc:Calls P f #[u] w R) (h:∀e w',R e w'->∃v,e= .returned v/\K (a.put o.dst v) w'):
 if Region.wanted o (yielded ops a.tmps)=true then Oper.wp P o a w K Q else E:=by
 rw[if_pos (by simp[Region.wanted,hgd])];have hr:(execOp a.eval o).run P w= .ok (.enter f #[u]) w:=by
  unfold execOp;rw[ho];subst hx;cases x <;> simp[go_sem,hf]
 unfold Oper.wp;rw[hr,Oper.upon_enter];refine hc.mono fun e w' he=>?_
 obtain⟨v,rfl,hk⟩:=h e w' he;exact hk
end
theorem aE9(w:World)(us:List Value)(T:TypeId):∀j u,us[j]? =some u->∃ad:Addr,(some (⟨w.heap.size,0,none⟩:Addr))=some ad/\(w.alloc (.cells us.toArray T)).cell? (ad.add j)=some u:=by
 intro j u hu;refine⟨_,rfl,?_⟩;unfold Addr.add;split
 ·rename_i e;subst e;rw[cell_of_row _ _ _ _ _ (0,0) (heap_alloc_new w _)];simpa using hu
 ·simp only[zBH];rw[cell_of_row _ _ _ _ _ (0,0) (heap_alloc_new w _)];simpa using hu
section
variable {w : World} {B0 Sb n : Nat} {tg : TgF} {v : Sv} {s : S.Sol}
def aSe(w:World)(B0 Sb n:Nat)(s':S.Sol)(e:Ending)(w':World):Prop:=
 e= .returned (.tuple #[])/\∃tg' v',SAt w' B0 Sb tg' n v' s'/\Below B0 w w'
theorem aWz(h:SAt w B0 Sb tg n v s)(hn:n<=4000){a:Int}(hl:S.isLit n a=true)(hsz:s.trl.length<=4000)(hls:s.lim.length<=4000)(hlr:s.lrn.length<=900000){A:Option Addr}{cap:Nat}(hu:OwnAt w 3 1 (.slice A 1 cap) 1 (siv [a]))(hun:∀g,(Value.slice A 1 cap).ownBlock=some g->B0<=g/\tg g=none):
 Calls prog 103 #[.pointer (some ⟨Sb,0,none⟩), .slice A 1 cap] w (aSe w B0 Sb n (s.take1 a)):=by
 obtain⟨g,o,c',e1,e2,e3,e4,e5⟩:=aAg hu (j:=0) (u:= .int .i64 a) rfl;injection e1 with e6 _ e7
 subst e6 e7;rw[zBI]at e2;have HW:=kH (show Below w.heap.size w w.drew from(Below.refl _ _).drew);have hu1:OwnAt w.drew 3 1 (.slice (some ⟨g,o,none⟩) 1 cap) 1 (siv [a]):=hu.below HW.out hu.lt;have Hcl:=kH (aIy (A:=some ⟨g,o,none⟩) (n:=1) (c:=cap) (us:=siv [a]) (W:=w.drew) rfl (fun j u hj=>by
  obtain⟨g',o',c',q1,q2,_⟩:=aAg hu1 hj;injection q1 with q3 _ _
  injection q3 with q3
  injection q3 with a1 a2 _
  subst a1 a2;exact⟨_,rfl,by rw[show(⟨g,o,none⟩:Addr).add j=⟨g,o+j,none⟩from by simp[Addr.add]];exact q2⟩) (fun u hu=>by
  obtain⟨x,_,rfl⟩:=zBU.1 hu;rfl) (fun ad _ had=>by
  obtain rfl:=zAH had;exact hu1.lt g rfl) (by omega))
 have HS:=kH (h.dr ((Dr.refl w).drew));have c1:=HS.out.c1;have Hb0:=kH (h.lt _ _ h.st.2);have Hun:=kH hun;have Hu:=kH hu;have hcf:∀(args:Array Value) (X:World),Sem.run prog (callFunc 91 args) X= .ok (.enter 91 args) X:=fun args X=>by simp[go_sem,callFunc,Tryz.f91]
 have Hcf:=kH hcf;clear h hun hu hu1 e3 hcf
 go_enter func103,ntmps103
 go_upto_region 0 with(fail)
 go_cut [] (fun wy=>∃(tg':TgF) (v':Sv),Hid (SAt wy B0 Sb tg' n v' {s with lrn:=s.lrn ++ [[a]]})/\Hid (Below B0 w wy)/\wy.cell? ⟨g,o,none⟩=some (.int .i64 a))
 case first=>
  go_wp2
  go_region_law (first
   | (refine aPp _ rfl 91 Hcf.out (.tmp 9) 37 rfl (.slice (some ⟨g, o, none⟩) 1 cap) rfl Hcl.out ?_
      rintro e w2 ⟨v2,rfl,k1,k2,k3⟩;obtain⟨A2,c2,rfl⟩:=k1.form;refine⟨_,rfl,?_⟩;have Hk:=kH (And.intro k1 (And.intro k2 k3));have S2:=kH (HS.out.below k2);have kc1:=S2.out.c1;have kc2:(w2.alloc (.cells #[.slice A2 1 c2] 37)).cell? ⟨Sb,1,none⟩=some v.lr:=(S2.out.below (al0)).c1;obtain⟨us,l1,l2⟩:=S2.out.lr;have Hl:=kH (And.intro l1 l2);clear k1 k2 k3 l1 l2)
   | (refine aBp _ rfl (.tmp 8) (.tmp 11) 25 rfl 37 (.slice none 0 0) 1 24 underlying25 Tryz.sinfoInts rfl (by decide) v.lr s.lrn.length us rfl (Hl.out.1.1.below (al0) Hl.out.1.1.lt) (some ⟨w2.heap.size, 0, none⟩) 1 1 [.slice A2 1 c2] rfl rfl (aE9 w2 [.slice A2 1 c2] 37) (by simp; rfl) (by omega) (by decide) ?_
      intro v' w4 hown hgr hat;obtain⟨Av,cv,hv⟩:=hown.form;subst hv;obtain⟨q1,q2,tg',q3,q4,q5⟩:=S2.out.pushLrn (c:= [a]) (u:= .slice A2 1 c2) (v':= .slice Av (s.lrn.length+1) cv) (w1:=w4) Hk.out.1 (fun g' hg'=>⟨by have h1:=Hk.out.2.2 g' hg';have h2:=(HS.out.lt _ _ HS.out.st.2);omega,HS.out.none_ (Hk.out.2.2 g' hg')⟩) Hl.out.1 Hl.out.2 hown hgr (by simpa using hat);have Hq:=kH (And.intro q3 (And.intro q4 q5));clear hown hgr hat q3 q4 q5))
  all_goals
   go_wp2
   go_meet
   have hb0:=(HS.out.lt _ _ HS.out.st.2);have hb1:=Hb0.out;have hg:g<w.drew.heap.size:=zAL (Hu.out.lt g rfl) HW.out.size;refine⟨tg',_,kH Hq.out.1,kH (((HW.out.mono (by omega)).trans (Hk.out.2.1.mono (by omega))).trans Hq.out.2.1),?_⟩;refine(aCz ((Hq.out.2.2 g (zAL hg Hk.out.2.1.size) (Hun.out g rfl).2 (fun e=>by have:=Hk.out.2.2 g e;omega)).2.trans (Hk.out.2.1.block g hg)) o).trans ?_;exact(aCz (HW.out.block g (Hu.out.lt g rfl)) o).trans e2
 case rest=>
  obtain⟨tg',v',H1,H2,hc⟩:=hcut;have Ht:=kH (aFg H1.out hn hl hsz hls (-1))
  go_wp2_with fail
  refine Ht.out.mono ?_;rintro e w' ⟨rfl,tg2,v2,t1,t2,t3⟩;have HE:=kH (And.intro t1 t3);clear t1 t2 t3 Ht;go_wp2;refine bodyPost_ret (results_none rfl _ _ _) rfl ?_;exact⟨rfl,tg2,v2,HE.out.1,H2.out.trans HE.out.2⟩
end
end
section
open Go.RowKit Go.Maps Go.Shelf
theorem aVq{a a' b b':Int}(h:a=a')(h':b=b'):Ending.returned (.tuple #[.int .u64 a, .int .u64 b])= .returned (.tuple #[.int .u64 a', .int .u64 b']):=by rw[h,h']
theorem aSf{x:Int}(h0:0<=x)(h1:x<=4294967295):bits .and .u64 x 4294967295=x:=by
 obtain⟨n,rfl⟩:∃n:Nat,x=n:=⟨x.toNat,by omega⟩;have h:=bits_and_u64_nat n 4294967295 (by omega) (by omega);have e:n &&& 4294967295=n % 4294967296:=Nat.and_two_pow_sub_one_eq_mod n 32;rw[e]at h;exact h.trans (by omega)
theorem aMk{x:Int}(h0:0<=x)(h1:x<18446744073709551616):IntKind.u64.wrap x=x:=by rw[IntKind.wrap_u64];omega
theorem aSg(x y:Int)(W:World)(hx:0<=x/\x<=4294967295)(hy:0<=y/\y<=4294967295):
 Calls prog 173 #[.int .u64 x, .int .u64 y] W fun e w'=>e= .returned (.tuple #[.int .u64 0, .int .u64 (x*y)])/\W=w':=by
 obtain⟨x0,x1⟩:=hx;obtain⟨y0,y1⟩:=hy;have hp0:0<=x*y:=Int.mul_nonneg x0 y0;have hp1:x*y<=4294967295*4294967295:=Int.mul_le_mul x1 y1 y0 (by omega);have ex:x / 4294967296=0:=by omega
 have ey:y / 4294967296=0:=by omega
 have ax:=aSf x0 x1;have ay:=aSf y0 y1;have wp:=aMk hp0 (by omega);have ap:=aSf (x:=x*y / 4294967296) (by omega) (by omega);have wq:=aMk (x:=x*y / 4294967296) (by omega) (by omega);have ez:x*y / 4294967296 / 4294967296=0:=by omega
 have w0:IntKind.u64.wrap 0=0:=rfl
 go_enter func173,ntmps173
 go_wp2;go_ret2;refine⟨aVq ?_ rfl,rfl⟩;simp only[ex,ey,ax,ay,wp,ap,wq,ez,w0,Int.zero_mul,Int.mul_zero,Int.zero_add,Int.add_zero]
theorem aY5(y:Int)(W:World)(hy:0<=y/\y<=4294967295):Calls prog 131 #[.int .u64 1, .int .u64 y] W fun e w'=>e= .returned (.tuple #[.int .u64 0, .int .u64 y])/\W=w':=by
 have Hm:=kH (aSg 1 y W ⟨by omega,by omega⟩ hy);obtain⟨h0,h1⟩:=hy;have hw:=aMk h0 (by omega)
 go_enter func131,ntmps131
 go_wp2_with fail
 refine Hm.out.mono ?_;rintro e w1 ⟨rfl,rfl⟩;go_wp2;go_ret2;exact⟨aVq rfl (by first | rfl | exact Int.one_mul y),rfl⟩
def repI(x:Int)(n c:Nat):List Value:=List.replicate n (.int .i64 x)++ List.replicate (c-n) (.int .i64 0)
theorem bBq{x:Int}{n c:Nat}(h:n<=c):(repI x n c).length=c:=by simp[repI];omega
theorem aPq(x:Int)(c:Nat):repI x c c=List.replicate c (.int .i64 x):=by simp[repI]
theorem aTy(x:Int){n k c:Nat}(h:n+k<=c):splice (repI x n c) n (List.replicate k (.int .i64 x))=repI x (n+k) c:=by
 unfold splice repI;rw[List.take_append_of_le_length (by simp),zAK (by simp),zBN,List.drop_append,List.drop_of_length_le (by simp),zBN,List.nil_append,List.drop_replicate,<-zBT,List.replicate_append_replicate]
 congr 2
 omega
theorem aIz:(prog.info? 3).map (·.size)=some 1:=by kernel_rfl
theorem bBr{w:World}{g:Nat}{x:Int}{n k c:Nat}{T:TypeId}(hk:k<=n)(hg:w.heap[g]? =some (.cells (repI x n c).toArray T (0,0))):
 ∀(j:Nat) (v:Value),(List.replicate k (Value.int .i64 x))[j]? =some v->w.cell? ((⟨g,0,none⟩:Addr).add j)=some v:=by
 intro j v hv;have hj:=(zAA.1 hv).1;rw[zBN]at hj;rw[aBl,cell_of_row w g _ _ T (0,0) hg]
 show(repI x n c).toArray[0+j]? =some v
 unfold repI;rw[zBH,zAV,zAE (by rw[zBN];omega),List.getElem?_replicate,if_pos (by omega)];rw[List.getElem?_replicate,if_pos hj]at hv;exact hv
theorem aNu{P:Program}{T E:TypeId}{W w:World}(x:Int){n c:Nat}{t:TypeId}(hu:P.underlying T=some (.slice E))(hsz:(P.info? E).map (·.size)=some 1)(h:n<=c){g:Nat}
 (hg:w.heap[g]? =some (.cells (repI x n c).toArray t (0,0))) {B:Nat} (hb:Below B W w) (hBg:B<=g) (o:TypeId):
 ∃w',(Builtin.copy_ #[T,T] o #[.slice (some ⟨g,n,none⟩) (c-n) (c-n), .slice (some ⟨g,0,none⟩) n c]).run P w= .ok (.int .i64 ((Nat.min n (c-n):Nat):Int)) w'/\Hid (w'.heap[g]? =some (.cells (repI x (n+Nat.min n (c-n)) c).toArray t (0,0)))/\Hid (Below B W w'):=by
 have hm:Nat.min n (c-n)<=n:=Nat.min_le_left _ _;have hm2:Nat.min n (c-n)<=c-n:=Nat.min_le_right _ _;have hrun:=run_copy_row (P:=P) w T T o E g n (c-n) (c-n) ⟨g,0,none⟩ n c (repI x n c).toArray t (List.replicate (Nat.min n (c-n)) (.int .i64 x)) hu hsz hg (by simp) (bBr hm hg) (by simp[bBq h];omega) (fun u hu=>by rw[List.eq_of_mem_replicate hu];rfl);rw[zBN]at hrun;refine⟨_,hrun,?_,below_setRow hb hBg _⟩;have:=setRow_heap w g (repI x n c).toArray (splice (repI x n c) n (List.replicate (Nat.min n (c-n)) (.int .i64 x))).toArray t (0,0) hg;rw[<-aTy x (k:=Nat.min n (c-n)) (by omega)];refine kH ?_;simpa[splice]using this
theorem aJt{c:Nat}(h:1<=c){x:Int}:splice (List.replicate c (Value.int .i64 0)) 0 [Value.int .i64 x]=repI x 1 c:=by
 simp[splice,repI]
theorem aSh{c:Nat}(h:1<=c){x:Value}: [x].length=Nat.min 1 c:=(Nat.min_eq_left h).symm
theorem aNv{c:Nat}(h:1<=c){x z:Value}:0+ [x].length<=(List.replicate c z).length:=by simp;omega
theorem aNw{w:World}{g:Nat}{x:Value}{T:TypeId}(hg:w.heap[g]? =some (.cells #[x] T (0,0))):
 ∀(j:Nat) (v:Value), [x][j]? =some v->w.cell? ((⟨g,0,none⟩:Addr).add j)=some v:=by
 intro j v hv;rw[aBl,cell_of_row w g _ _ T (0,0) hg];rw[zBH];simpa using hv
theorem aLv(x:Int)(c:Nat)(hc1:1<=c)(hc:c<=100000)(g:Nat)(W:World)(hg:W.heap[g]? =some (.cells #[.int .i64 x] 3 (0,0))):
 Calls prog 90 #[.slice (some ⟨g,0,none⟩) 1 1, .int .i64 (c:Int)] W fun e w'=>
  e= .returned (.slice (some ⟨W.heap.size,0,none⟩) c c)/\w'.heap[W.heap.size]? =some (.cells (List.replicate c (.int .i64 x)).toArray 3 (0,0))/\Below W.heap.size W w':=by
 have Hmul:=kH (fun W=>aY5 (c:Int) W ⟨by omega,by omega⟩);have hci:(c:Int)<=100000:=by omega
 have hci2:1<=(c:Int):=by omega
 have HB0:=kH (show Below W.heap.size W (W.alloc (.cells (Array.replicate c (.int .i64 0)) 3))from al0);have hg0:(W.alloc (.cells (Array.replicate c (.int .i64 0)) 3)).heap[g]? =some (.cells #[.int .i64 x] 3 (0,0)):=(Below.heap_alloc W _ g (gA hg).1).trans hg;have Hg0:=kH hg0;clear hg hg0;have hmk:=fun(W':World)=>aBd (P:=prog) 37 3 (.int .i64 0) 8 underlying37 Tryz.sinfoInt rfl .i64 .i64 c (c:Int) rfl (by omega) (by omega) W'
 go_enter func90,ntmps90
 go_wp2_with fail
 refine(Hmul.out _).mono ?_;rintro e w1 ⟨rfl,rfl⟩
 go_wp2_with (with_reducible refine wpList_copy_splice rfl (.tmp 31) (.tmp 32) 37 37 rfl 3 underlying37 aIz _ _ _ _ _ _ rfl rfl W.heap.size 0 (List.replicate c (.int .i64 0)) 3 (heap_alloc_new W _) [.int .i64 x] (aSh hc1) (fun _=>⟨rfl,⟨g,0,none⟩,rfl,aNw Hg0.out⟩) (aNv hc1) (aRt x) W.heap.size W HB0.out (zBJ _) ?_;intro w2 hG2 hb2;have HG2:=kH hG2;clear hG2)
 rw[aJt hc1]at HG2;have Hb2:=kH hb2;clear hb2
 go_loopg [8] c (fun gg i wr=>∃n:Nat,1<=n/\n<=c/\i= .int .i64 (n:Int)/\gg+n=c+1/\Hid (wr.heap[W.heap.size]? =some (.cells (repI x n c).toArray 3 (0,0))/\Below W.heap.size W wr))
 case atStart=>exact⟨1,zBJ _,hc1,rfl,rfl,kH ⟨HG2.out.out,Hb2.out⟩⟩
 case round=>
  obtain⟨n,hn1,hn,rfl,hgk,HI⟩:=hrel;have Hgk:=kH hgk;clear hgk
  by_cases hlt:n<c
  ·have HI2:=kH HI.out.1;have HB3:=kH HI.out.2;clear HI;have hs1:∀W',(Instr.slice 37 (.slice (some ⟨W.heap.size,0,none⟩) c c) (some (.int .i64 (n:Int))) none none).run prog W'= .ok (.slice (some ⟨W.heap.size,n,none⟩) (c-n) (c-n)) W':=fun W'=>by
    have:=aHv (P:=prog) underlying37 Tryz.sinfoInt W.heap.size 0 c c n (by omega) W';rw[if_neg (by omega:¬c=n),zBH,Nat.mul_one]at this;exact this
   have hs2:∀W',(Instr.slice 37 (.slice (some ⟨W.heap.size,0,none⟩) c c) none (some (.int .i64 (n:Int))) none).run prog W'= .ok (.slice (some ⟨W.heap.size,0,none⟩) n c) W':=fun W'=>
    aKc (P:=prog) underlying37 Tryz.sinfoInt W.heap.size 0 c c n (by omega) W'
   go_wp2_with fail
   have Hb4:=kH (show Below W.heap.size W wr.drew from HB3.out.trans ((Below.refl _ _).drew));have Hg4:=kH (show wr.drew.heap[W.heap.size]? =some (.cells (repI x n c).toArray 3 (0,0))from HI2.out);obtain⟨w5,hcp,HG5,Hb5⟩:=aNu x underlying37 aIz hn Hg4.out Hb4.out (zBJ _) 3;have hmn:Nat.min n (c-n)<=c-n/\1<=Nat.min n (c-n):=⟨Nat.min_le_right _ _,Nat.le_min.2 ⟨hn1,by omega⟩⟩;obtain⟨k,hk⟩:∃k,Nat.min n (c-n)=k:=⟨_,rfl⟩;rw[hk]at hcp HG5 hmn;clear hk;obtain⟨hk1,hk2⟩:=hmn
   go_region
   go_wp2;have hgk:=Hgk.out
   go_roundg (gk-k)
   case measure=>omega
   case rel=>exact⟨n+k,by omega,by omega,by go_num,by omega,kH ⟨HG5.out,Hb5.out⟩⟩
  ·have hnc:n=c:=by omega
   subst hnc;go_wp2;go_ret;refine⟨rfl,?_,HI.out.2⟩;have:=HI.out.1
   rwa [aPq]at this
theorem aTz(x:Int)(c:Nat)(hc1:1<=c)(hc:c<=100000)(g:Nat)(W:World)(hg:W.heap[g]? =some (.cells #[.int .i64 x] 3 (0,0))):
 Calls prog 148 #[.slice (some ⟨g,0,none⟩) 1 1, .int .i64 (c:Int)] W fun e w'=>
  e= .returned (.slice (some ⟨W.heap.size,0,none⟩) c c)/\w'.heap[W.heap.size]? =some (.cells (List.replicate c (.int .i64 x)).toArray 3 (0,0))/\Below W.heap.size W w':=by
 have Hmul:=kH (fun W=>aY5 (c:Int) W ⟨by omega,by omega⟩);have hci:(c:Int)<=100000:=by omega
 have hci2:1<=(c:Int):=by omega
 have HB0:=kH (show Below W.heap.size W (W.alloc (.cells (Array.replicate c (.int .i64 0)) 3))from al0);have hg0:(W.alloc (.cells (Array.replicate c (.int .i64 0)) 3)).heap[g]? =some (.cells #[.int .i64 x] 3 (0,0)):=(Below.heap_alloc W _ g (gA hg).1).trans hg;have Hg0:=kH hg0;clear hg hg0;have hmk:=fun(W':World)=>aBd (P:=prog) 69 3 (.int .i64 0) 8 underlying69 Tryz.sinfoInt rfl .i64 .i64 c (c:Int) rfl (by omega) (by omega) W'
 go_enter func148,ntmps148
 go_wp2_with fail
 refine(Hmul.out _).mono ?_;rintro e w1 ⟨rfl,rfl⟩
 go_wp2_with (with_reducible refine wpList_copy_splice rfl (.tmp 31) (.tmp 32) 69 69 rfl 3 underlying69 aIz _ _ _ _ _ _ rfl rfl W.heap.size 0 (List.replicate c (.int .i64 0)) 3 (heap_alloc_new W _) [.int .i64 x] (aSh hc1) (fun _=>⟨rfl,⟨g,0,none⟩,rfl,aNw Hg0.out⟩) (aNv hc1) (aRt x) W.heap.size W HB0.out (zBJ _) ?_;intro w2 hG2 hb2;have HG2:=kH hG2;clear hG2)
 rw[aJt hc1]at HG2;have Hb2:=kH hb2;clear hb2
 go_loopg [8] c (fun gg i wr=>∃n:Nat,1<=n/\n<=c/\i= .int .i64 (n:Int)/\gg+n=c+1/\Hid (wr.heap[W.heap.size]? =some (.cells (repI x n c).toArray 3 (0,0))/\Below W.heap.size W wr))
 case atStart=>exact⟨1,zBJ _,hc1,rfl,rfl,kH ⟨HG2.out.out,Hb2.out⟩⟩
 case round=>
  obtain⟨n,hn1,hn,rfl,hgk,HI⟩:=hrel;have Hgk:=kH hgk;clear hgk
  by_cases hlt:n<c
  ·have HI2:=kH HI.out.1;have HB3:=kH HI.out.2;clear HI;have hs1:∀W',(Instr.slice 69 (.slice (some ⟨W.heap.size,0,none⟩) c c) (some (.int .i64 (n:Int))) none none).run prog W'= .ok (.slice (some ⟨W.heap.size,n,none⟩) (c-n) (c-n)) W':=fun W'=>by
    have:=aHv (P:=prog) underlying69 Tryz.sinfoInt W.heap.size 0 c c n (by omega) W';rw[if_neg (by omega:¬c=n),zBH,Nat.mul_one]at this;exact this
   have hs2:∀W',(Instr.slice 69 (.slice (some ⟨W.heap.size,0,none⟩) c c) none (some (.int .i64 (n:Int))) none).run prog W'= .ok (.slice (some ⟨W.heap.size,0,none⟩) n c) W':=fun W'=>
    aKc (P:=prog) underlying69 Tryz.sinfoInt W.heap.size 0 c c n (by omega) W'
   go_wp2_with fail
   have Hb4:=kH (show Below W.heap.size W wr.drew from HB3.out.trans ((Below.refl _ _).drew));have Hg4:=kH (show wr.drew.heap[W.heap.size]? =some (.cells (repI x n c).toArray 3 (0,0))from HI2.out);obtain⟨w5,hcp,HG5,Hb5⟩:=aNu x underlying69 aIz hn Hg4.out Hb4.out (zBJ _) 3;have hmn:Nat.min n (c-n)<=c-n/\1<=Nat.min n (c-n):=⟨Nat.min_le_right _ _,Nat.le_min.2 ⟨hn1,by omega⟩⟩;obtain⟨k,hk⟩:∃k,Nat.min n (c-n)=k:=⟨_,rfl⟩;rw[hk]at hcp HG5 hmn;clear hk;obtain⟨hk1,hk2⟩:=hmn
   go_region
   go_wp2;have hgk:=Hgk.out
   go_roundg (gk-k)
   case measure=>omega
   case rel=>exact⟨n+k,by omega,by omega,by go_num,by omega,kH ⟨HG5.out,Hb5.out⟩⟩
  ·have hnc:n=c:=by omega
   subst hnc;go_wp2;go_ret;refine⟨rfl,?_,HI.out.2⟩;have:=HI.out.1
   rwa [aPq]at this
end
section
open Go.RowKit
def bwp{α:Type}(xs:List α):List (Nat×α):=(xs.zipIdx.map fun p=>(p.2,p.1)).reverse
theorem aLf{α:Type}(xs:List α):(bwp xs).length=xs.length:=by simp[bwp]
theorem bE7{α:Type}{xs:List α}{j i:Nat}{x:α}(hi:xs[i]? =some x)(hj:i+j+1=xs.length):(bwp xs)[j]? =some (i,x):=by
 unfold bwp;rw[List.getElem?_reverse (by simp;omega),zAY,List.length_zipIdx,zAW,show xs.length-1-j=i from by omega,List.getElem?_zipIdx,hi];simp
theorem aI0{α:Type}{xs:List α}{j i:Nat}{x:α}(hi:xs[i]? =some x)(hj:i+j+1=xs.length):(bwp xs).take (j+1)=(bwp xs).take j ++ [(i,x)]:=by
 rw[List.take_add_one,bE7 hi hj];rfl
def BwArg(p:Nat×Int)(args:Array Value):Prop:=args= #[.int .i64 (p.1:Int), .int .i64 p.2]
def BwSL(B:Nat)(A:Option Addr)(n c:Nat)(xs:List Int)(W:World):Prop:=W.cell? ⟨B,0,none⟩=some (.slice A n c)/\∀i x,xs[i]? =some x->∃g o,A=some ⟨g,o,none⟩/\W.cell? ⟨g,o+i,none⟩=some (.int .i64 x)
theorem aW0(B:Nat)(A:Option Addr)(n c:Nat)(xs:List Int)(hl:xs.length=n)(hn:n<=1000000)(Wc:World):
 SeqC prog 204 #[.pointer (some ⟨B,0,none⟩)] BwArg (BwSL B A n c xs) (bwp xs) Wc:=by
 intro l J hSL hY h0;have hc0:=(hSL _ _ h0).1;have HSL:=kH hSL;have HY:=kH hY;have H0:=kH h0;have Hl:=kH hl;clear hSL hY h0 hl;simp only[List.append_toArray,List.nil_append,List.cons_append]
 go_enter func204,ntmps204
 go_wp2
 go_loopg [3] (n+1) (fun g i3 wr=>∃(j:Nat),j<=n/\i3= .int .i64 ((n:Int)-1- (j:Int))/\g+j=n+1/\Hid (J ((bwp xs).take j) wr))
 case atStart=>exact⟨0,zBL _,by simp,rfl,H0⟩
 case round=>
  obtain⟨j,hj,rfl,hgk,H1⟩:=hrel;have Hgk:=kH hgk;clear hgk hc0
  by_cases hjn:j<n
  ·obtain⟨i,hi⟩:∃i,i+j+1=n:=⟨n-1-j,by omega⟩;have e:(n:Int)-1- (j:Int)=(i:Int):=by omega
   rw[e];obtain⟨x,hx⟩:∃x,xs[i]? =some x:=⟨_,zAB (by have:=Hl.out;omega)⟩;obtain⟨s1,s2⟩:=HSL.out _ _ H1.out;obtain⟨g,o,rfl,hx2⟩:=s2 i x hx;have hpre:(bwp xs).take j ++ [(i,x)] <+:bwp xs:=by rw[<-aI0 hx (by rw[Hl.out];exact hi)];exact List.take_prefix _ _
   obtain⟨fn,tmps,assign,body,hy,hR⟩:=HY.out _ (i,x) wr #[.int .i64 (i:Int), .int .i64 x] H1.out rfl hpre;have HR:=kH hR;have Hx:=kH hx;have Hi:=kH hi;have hin:(i:Int) <(n:Int):=by omega
   have hi0:decide ((0:Int)<=(i:Int))=true:=by simp
   clear hR hx hpre e s2 hi
   go_upto_region 3 with(fail)
   refine(wpIn_wide (n:=1)).1 ?_
   gi_wp2
   refine HR.out.mono ?_;rintro e W2 ⟨rfl,hj2⟩;have HJ2:=kH hj2;clear hj2 hy s1 hx2
   gi_wp2
   go_wp2;have hgk:=Hgk.out
   go_roundg (gk-1)
   case measure=>omega
   case rel=>
    have hi:=Hi.out;refine⟨j+1,by omega,by go_num,by omega,?_⟩;rw[aI0 Hx.out (by rw[Hl.out];exact hi)];exact HJ2
  ·obtain rfl:j=n:=by omega
   rw[zAK (by rw[aLf,Hl.out];exact zBJ _)]at H1;have e:(j:Int)-1- (j:Int)= -1:=by omega
   rw[e];go_wp2
   go_end0
   exact⟨⟨_,rfl⟩,H1.out⟩
theorem aQl(A:Option Addr)(n c:Nat)(W:World):Calls prog 185 #[.slice A n c] W fun e w'=>
 e= .returned (.func (.func 204) #[] #[.pointer (some ⟨W.heap.size,0,none⟩)])/\w'=W.alloc (.cells #[.slice A n c] 37):=by
 go_enter func185,ntmps185
 go_wp2;go_ret;exact⟨rfl,rfl⟩
end
end Go.Proofs.YtchdbhggbdcapaaGreat
