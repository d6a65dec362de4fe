/- Part. -/
import Derived.Test.YtchdbhggbdcapaaGreatSuLX
import Derived.Test.YtchdbhggbdcapaaGreatSu20
set_option linter.unusedVariables false
set_option linter.unusedSimpArgs false
set_option maxRecDepth 100000
set_option maxHeartbeats 16000000
namespace Go.Proofs.YtchdbhggbdcapaaGreat
open _root_.Go.Proofs.Tryz
section
open Go.RowKit Go.MapKept Go.Maps Go.WideMaps
theorem aJu{w:World}{g:Nat}{v:Value}{T:TypeId}(h:w.heap[g]? =some (.cells #[v] T (0,0))):∀(j:Nat) u, [v][j]? =some u->w.cell? ((⟨g,0,none⟩:Addr).add j)=some u:=fun j u hu=>by
 rcases j with _ | j
 ·simp at hu;subst hu
  show w.cell? ⟨g,0,none⟩=_
  rw[cell_of_row _ _ _ _ _ (0,0) h];rfl
 ·simp at hu
theorem aBo{fn:Func}{t u v:Tmp}(h:fn.results= #[.tmp t, .tmp u, .tmp v])(tmps:Array Value)(P:Program)(w:World):
 (results fn tmps).run P w= .ok (.tuple #[tmps.getD t undef,tmps.getD u undef,tmps.getD v undef]) w:=by
 simp[results,h]
theorem aPy{w0 w w':World}{B0 Bb Mb:Nat}{tg:TgF}{u:Value}{r:C.Bd}(hw:Below w0.heap.size w0 w)(hB:B0<=w0.heap.size)(hu:∀g,u.ownBlock=some g->w0.heap.size<=g)(hlt:∀x t,tg x=some t->x<w0.heap.size)(h:CPost w B0 Bb Mb tg u r w'):
 ∃tg' vc',BAt w' B0 Bb Mb tg' vc' r/\Up B0 tg w0 tg' w':=by
 obtain⟨tg',vc',b,bl,no,wl⟩:=h;refine⟨tg',vc',b,⟨⟨zBK hw.size bl.size,fun x hx hn=>?_,fun x hx=>?_⟩,(hw.mono hB).trans bl⟩⟩
 ·obtain⟨q1,q2⟩:=no x (zAL hx hw.size) hn (fun e=>by have:=hu x e;omega);exact⟨q1,q2.trans (hw.block x hx)⟩
 ·obtain⟨q1,q2⟩:=wl x hx;exact⟨q1,q2.trans (hw.block x (hlt x _ hx))⟩
theorem aXl{P:Program}{w:World}{ops:Array Oper}{o:Oper}{a:Act}{K:Act->World->Prop}{Q:Exit->Act->World->Prop}{E:Prop}(hgd:o.guard=none)(f:FuncId)(hf:∀args W,Sem.run P (callFunc f args) W= .ok (.enter f args) W)
 (ho:o.op= .call {callee:= .value (.func f),args:= #[],argTypes:= #[]}) {R:Ending->World->Prop}
 (hc:Calls P f #[] w R) (h:∀e w',R e w'->∃r,e= .returned r/\K (a.put o.dst r) w'):
 if Region.wanted o (yielded ops a.tmps)=true then Oper.wp P o a w K Q else E:=by
 rw[if_pos (by simp[Region.wanted,hgd])];have hr:(execOp a.eval o).run P w= .ok (.enter f #[]) w:=by
  unfold execOp;rw[ho];have hev:a.eval (.func f)= .func (.func f) #[] #[]:=rfl;generalize a.eval=ev at hev;simp[go_sem,hf,hev]
 unfold Oper.wp;rw[hr,Oper.upon_enter];refine hc.mono fun e w' he=>?_
 obtain⟨v,rfl,hk⟩:=h e w' he;exact hk
theorem BAt.base{w:World}{B0 B1 Bb Mb:Nat}{tg:TgF}{vc:Value}{b:C.Bd}(h:BAt w B0 Bb Mb tg vc b)(hb:B1<=B0):BAt w B1 Bb Mb tg vc b:=
 ⟨h.st,h.cl,h.mp,h.mt,fun x t hx=>⟨zBK hb (h.lt x t hx).1,(h.lt x t hx).2⟩,h.bo⟩
theorem aZz{w:World}{tg:TgF}{Bb Cb Wb n:Nat}(hC:w.heap[Cb]? =some (.cells #[.pointer (some ⟨Bb,0,none⟩), .slice none 0 0, .slice none 0 0, .slice none 0 0, .slice none 0 0, .slice (some ⟨Wb,0,none⟩) n n] 73 (0,0)))
 (hW:w.heap[Wb]? =some (.cells (List.replicate n (Value.slice none 0 0)).toArray 69 (0,0))) (tC:tg Cb=none) (tW:tg Wb=none):CtAt w tg Cb Bb Wb n (List.replicate 4 []) (List.replicate n []):=by
 refine⟨⟨[.slice none 0 0, .slice none 0 0, .slice none 0 0, .slice none 0 0],rfl,hC,fun i l hi=>?_⟩,⟨_,by simp,hW,fun i l hi=>?_⟩,tC,tW⟩
 ·rw[List.getElem?_replicate]at hi;split at hi
  ·rename_i h1;obtain rfl:=zAH hi;refine⟨.slice none 0 0,?_,WdV.nil_ _ _⟩
   match i,h1 with
   | 0,_=>rfl
   | 1,_=>rfl
   | 2,_=>rfl
   | 3,_=>rfl
  ·cases hi
 ·rw[List.getElem?_replicate]at hi;split at hi
  ·rename_i h1;obtain rfl:=zAH hi;exact⟨.slice none 0 0,by rw[List.getElem?_replicate,if_pos h1],WdV.nil_ _ _⟩
  ·cases hi
theorem Tryz.winfo:(prog.info? 69).map (fun i=>(i.zero,i.size,i.bytes))=some (some (.slice none 0 0),1,24):=by kernel_rfl
def aOz(W:World)(n:Nat)(s5:Value)(wy:World):Prop:=∃Cb Bb Mb Wb tg vc,s5= .pointer (some ⟨Cb,0,none⟩)/\Hid (BAt wy W.heap.size Bb Mb tg vc (C.inB 0)/\CtAt wy tg Cb Bb Wb n (List.replicate 4 []) (List.replicate n [])/\W.heap.size<=Cb/\Below W.heap.size W wy/\W.heap.size<=Wb/\∀i,i<4->wy.cell? ⟨Cb,1+i,none⟩=some (.slice none 0 0))
theorem aVx{w:World}{Bb Cb Wb n:Nat}(hC:w.heap[Cb]? =some (.cells #[.pointer (some ⟨Bb,0,none⟩), .slice none 0 0, .slice none 0 0, .slice none 0 0, .slice none 0 0, .slice (some ⟨Wb,0,none⟩) n n] 73 (0,0))):∀i,i<4->w.cell? ⟨Cb,1+i,none⟩=some (.slice none 0 0):=fun i hi=>by
 rw[cell_of_row _ _ _ _ _ (0,0) hC]
 match i,hi with
 | 0,_=>rfl
 | 1,_=>rfl
 | 2,_=>rfl
 | 3,_=>rfl
theorem bB9{W w2:World}{n Bb Mb:Nat}{tg:TgF}{vc:Value}(b2:BAt w2 W.drew.heap.size Bb Mb tg vc (C.inB 0))(q2:Below W.drew.heap.size W.drew w2):
 aOz W n (.pointer (some ⟨w2.heap.size+1,0,none⟩)) ((w2.alloc (.cells (Array.replicate n (.slice none 0 0)) 69)).alloc (.cells #[.pointer (some ⟨Bb,0,none⟩), .slice none 0 0, .slice none 0 0, .slice none 0 0, .slice none 0 0, .slice (some ⟨w2.heap.size,0,none⟩) n n] 73)):=by
 obtain⟨X,hX⟩:∃X,X=((w2.alloc (.cells (Array.replicate n (.slice none 0 0)) 69)).alloc (.cells #[.pointer (some ⟨Bb,0,none⟩), .slice none 0 0, .slice none 0 0, .slice none 0 0, .slice none 0 0, .slice (some ⟨w2.heap.size,0,none⟩) n n] 73)):=⟨_,rfl⟩;rw[<-hX];have hbX:Below w2.heap.size w2 X:=by rw[hX];exact(al0).alloc (by simp) _
 have hs:W.heap.size<=w2.heap.size:=q2.size;have hW:X.heap[w2.heap.size]? =some (.cells (List.replicate n (Value.slice none 0 0)).toArray 69 (0,0)):=by
  rw[hX,List.toArray_replicate];exact aA1 (heap_alloc_new w2 _) _
 have hC:X.heap[w2.heap.size+1]? =some (.cells #[.pointer (some ⟨Bb,0,none⟩), .slice none 0 0, .slice none 0 0, .slice none 0 0, .slice none 0 0, .slice (some ⟨w2.heap.size,0,none⟩) n n] 73 (0,0)):=by
  rw[hX];exact aC2 w2 _ _
 exact⟨_,Bb,Mb,w2.heap.size,tg,vc,rfl,kH ⟨(b2.below hbX).base (zBJ _),aZz hC hW (b2.none_ (Nat.le_succ _)) (b2.none_ (zBJ _)),Nat.le_succ_of_le hs,(show Below W.heap.size W w2 from(Below.refl _ _).drew.trans q2).trans (hbX.mono hs),hs,aVx hC⟩⟩
theorem bCa{W w2:World}{n Bb Mb:Nat}{tg:TgF}{vc:Value}(b2:BAt w2 (W.drew.alloc (.cells (Array.replicate n (.slice none 0 0)) 69)).heap.size Bb Mb tg vc (C.inB 0))(q2:Below (W.drew.alloc (.cells (Array.replicate n (.slice none 0 0)) 69)).heap.size (W.drew.alloc (.cells (Array.replicate n (.slice none 0 0)) 69)) w2):
 aOz W n (.pointer (some ⟨w2.heap.size,0,none⟩)) (w2.alloc (.cells #[.pointer (some ⟨Bb,0,none⟩), .slice none 0 0, .slice none 0 0, .slice none 0 0, .slice none 0 0, .slice (some ⟨W.heap.size,0,none⟩) n n] 73)):=by
 obtain⟨X,hX⟩:∃X,X=(w2.alloc (.cells #[.pointer (some ⟨Bb,0,none⟩), .slice none 0 0, .slice none 0 0, .slice none 0 0, .slice none 0 0, .slice (some ⟨W.heap.size,0,none⟩) n n] 73)):=⟨_,rfl⟩;rw[<-hX];have hbX:Below w2.heap.size w2 X:=by rw[hX];exact al0
 obtain⟨Y,hY⟩:∃Y,Y=W.drew.alloc (.cells (Array.replicate n (.slice none 0 0)) 69):=⟨_,rfl⟩;rw[<-hY]at b2 q2;have hYs:Y.heap.size=W.heap.size+1:=by rw[hY];simp
 have hYb:Below W.heap.size W Y:=by rw[hY];exact((Below.refl W.heap.size W).drew).alloc (by simp) _
 have hs:W.heap.size+1<=w2.heap.size:=by have:=q2.size;omega
 have hW0:Y.heap[W.heap.size]? =some (.cells (List.replicate n (Value.slice none 0 0)).toArray 69 (0,0)):=by
  rw[hY,List.toArray_replicate];exact heap_alloc_new W.drew _
 have hW:X.heap[W.heap.size]? =some (.cells (List.replicate n (Value.slice none 0 0)).toArray 69 (0,0)):=(hbX.block _ (by omega)).trans ((q2.block _ (by omega)).trans hW0);have hC:X.heap[w2.heap.size]? =some (.cells #[.pointer (some ⟨Bb,0,none⟩), .slice none 0 0, .slice none 0 0, .slice none 0 0, .slice none 0 0, .slice (some ⟨W.heap.size,0,none⟩) n n] 73 (0,0)):=by
  rw[hX];exact heap_alloc_new w2 _
 have htW:tg W.heap.size=none:=by
  cases e:tg W.heap.size with
  | none=>rfl
  | some q=>have:=(b2.lt _ q e).1;omega
 exact⟨_,Bb,Mb,W.heap.size,tg,vc,rfl,kH ⟨(b2.below hbX).base (by omega),aZz hC hW (b2.none_ (zBJ _)) htW,by omega,(hYb.trans (q2.mono (by omega))).trans (hbX.mono (by omega)),zBJ _,aVx hC⟩⟩
def bFd(t:List T.Nd)(n:Nat)(W:World)(e:Ending)(w':World):Prop:=
 Below W.heap.size W w'/\((C.build t=none/\e= .returned (.tuple #[.pointer none, .int .i64 0, .int .i64 3]))\/
  ∃c Cb Bb Mb Wb tg vc words,C.build t=some c/\e= .returned (.tuple #[.pointer (some ⟨Cb,0,none⟩), .int .i64 c.root, .int .i64 0])/\BAt w' W.heap.size Bb Mb tg vc c.b/\CtAt w' tg Cb Bb Wb n c.vars words/\W.heap.size<=Cb)
theorem aN3(t:List T.Nd)(n ct:Nat)(At:Option Addr)(W:World)(hT:StAt 5 NdR W At n t)(hv:T.valid true t=0):
 Calls prog 43 #[.slice At n ct] W (bFd t n W):=by
 have hlen:=hT.len;obtain⟨v1,v2,v3,v4,v5⟩:=aBk hv;have Ht:=kH (show C.Tm t from⟨by omega,v3,fun i y h=>v4 y (zAC h),aBq hT⟩);have Hcl:=kH v5;have HT:=kH hT;have Hlen:=kH hlen;have hn1:1<=n:=by omega
 have hn3:n<=300:=by omega
 have HWs:=kH (fun X (hX:Below W.heap.size W X)=>aDs t n ct At X (hT.below aAh hX));have Hv:=kH hv;have hmk:=fun(W':World)=>aBd (P:=prog) 71 69 (.slice none 0 0) 24 underlying71 Tryz.winfo rfl .i64 .i64 n (n:Int) (by omega) (by omega) (by omega) W'
 have Hcn:=kH (show∀(args:Array Value) (X:World),Sem.run prog (callFunc 67 args) X= .ok (.enter 67 args) X from fun args X=>by simp[go_sem,callFunc,Tryz.f67]);clear hT hv v1 v2 v3 v4 v5 hlen
 go_enter func43,ntmps43
 go_upto_region 1 with(fail)
 go_cut [5] (fun s5 wy=>aOz W n s5 wy)
 case first=>
  go_region_law (first
   | (refine aXl rfl 67 Hcn.out rfl (bB2 _) ?_
      rintro e w2 ⟨Bb,Mb,tg,vc,rfl,b2,q2⟩;refine⟨_,rfl,?_⟩;have HN:=kH (And.intro b2 q2);clear b2 q2))
  all_goals
   go_wp2
   go_meet
   first | exact bB9 HN.out.1 HN.out.2 | exact bCa HN.out.1 HN.out.2
 case rest=>
 obtain⟨Cb,Bb,Mb,Wb,tg,vc,rfl,H1⟩:=hcut;have HWk:=kH (HWs.out _ H1.out.2.2.2.1);clear hmk Hcn HWs
 go_wp2_with fail
 refine HWk.out.mono ?_;rintro e w2 ⟨hb2,h |⟨_,gw,rfl,hgw,hrow⟩⟩
 ·exact absurd Hv.out h.1
 obtain⟨ws,hws⟩:∃ws,T.aAa t=ws:=⟨_,rfl⟩;rw[hws]at hrow;have hwl:ws.length=4:=by rw[<-hws];exact T.aA9 t
 have hsm:C.total ws<=128:=by rw[<-hws];exact C.aCt Ht.out
 have hwd:∀(v:Nat) (z:Int),ws[v]? =some z->0<=z/\z<=32:=by rw[<-hws];exact fun v z h=>C.aCx Ht.out h
 have H2:=kH (show BAt w2 W.heap.size Bb Mb tg vc (C.inB 0)/\CtAt w2 tg Cb Bb Wb n (vst ws 0 0) (List.replicate n [])/\(∀i,i<4->w2.cell? ⟨Cb,1+i,none⟩=some (.slice none 0 0))/\Below W.heap.size W w2/\W.heap.size<=Cb/\W.heap.size<=Wb/\tg gw=none from by
  obtain⟨q1,q2,q3,q4,q5,q6⟩:=H1.out;have hu:=q1.up hb2;refine⟨q1.below hb2,by rw[bB1];exact q2.up hu,fun i hi=>(hb2.cell (p:=⟨Cb,1+i,none⟩) q2.ltC).trans (q6 i hi),q4.trans (hb2.mono q4.size),q3,q5,q1.none_ hgw⟩)
 have Hws:=kH (And.intro hws (And.intro hwl (And.intro hsm hwd)));have Hrow:=kH hrow;clear hb2 hgw hrow hws HWk H1 hwl hsm hwd;go_wp2
 go_loopw [30] (fun s30 wr=>∃v:Nat,v<=4/\s30= .int .i64 (v:Int)/\Hid (∃tg vc,BAt wr W.heap.size Bb Mb tg vc (C.inB (C.total (ws.take v)))/\CtAt wr tg Cb Bb Wb n (vst ws v 0) (List.replicate n [])/\(∀i,v<=i->i<4->wr.cell? ⟨Cb,1+i,none⟩=some (.slice none 0 0))/\Below W.heap.size W wr/\wr.heap[gw]? =some (.cells (ws.map (Value.int .i64)).toArray 3 (0,0))/\tg gw=none)) (fun s _=>4- (intOf s).toNat)
 case atStart=>exact⟨0,by omega,rfl,kH ⟨tg,vc,H2.out.1,H2.out.2.1,fun i _ hi=>H2.out.2.2.1 i hi,H2.out.2.2.2.1,Hrow.out,H2.out.2.2.2.2.2.2⟩⟩
 case round=>
  obtain⟨v,hv4,rfl,HL⟩:=hrel
  by_cases hlt:v<4
  ·obtain⟨tg1,vc1,q1,q2,q3,q4,q5,q6⟩:=HL.out;obtain⟨us,l1,r1,k1⟩:=q2.row;have huv:us[v]? =some (.slice none 0 0):=by
    have:=q3 v (zBJ _) hlt;rw[cell_of_row _ _ _ _ _ (0,0) r1,zAR (by simp;omega),zAS (by simp)]at this;simpa using this
   obtain⟨z,hz⟩:∃z,ws[v]? =some z:=⟨_,zAB (by have:=Hws.out.2.1;omega)⟩;obtain⟨z0,z1⟩:=Hws.out.2.2.2 v z hz;obtain⟨m,rfl⟩:∃m:Nat,z=m:=⟨z.toNat,by omega⟩;have hcz:wr.cell? ⟨gw,v,none⟩=some (.int .i64 ((m:Nat):Int)):=by rw[cell_of_row _ _ _ _ _ (0,0) q5,zAV,zAW,hz];rfl
   obtain⟨K,hK⟩:∃K,C.total (ws.take v)=K:=⟨_,rfl⟩;have hgd:ws.getD v 0=((m:Nat):Int):=by rw[List.getD,hz];rfl
   have hKm:K+m<=128:=by
    have:=C.aCp ws v (by have:=Hws.out.2.1;omega);rw[hK,hgd]at this;have:=Hws.out.2.2.1;omega
   have hK1:C.total (ws.take (v+1))=K+m:=by
    rw[List.take_add_one,hz,<-hK];simp[C.total]
   rw[hK]at q1;have hV0:=VI.start q1 q2 l1 r1 huv q4;obtain⟨wo,hwo⟩:∃wo,wo=wr:=⟨_,rfl⟩;subst hwo;have HV0:=kH hV0;have Hq:=kH (And.intro q2 (And.intro q3 (And.intro q5 (And.intro q6 (And.intro r1 (And.intro k1 (And.intro hK hK1)))))));have Hul:=kH l1;have Hgd:=kH (And.intro hz hgd);have HCo:=kH q2.ltC;have HWC:=kH H2.out.2.2.2.2.1;obtain⟨ii,hi1,hz1,hs1,hy1⟩:=iinfo;have Hii:=kH (And.intro hi1 (And.intro hz1 (And.intro hs1 hy1)));have Hgw:=kH (show gw<wo.heap.size from(gA q5).1);clear q1 q2 q3 q4 q5 q6 l1 r1 k1 huv hz hgd hK hK1 hV0 hi1 hz1 hs1 hy1 HL;have hv4:(v:Int) < 4:=by omega
   go_wp2
   go_loopw [36] (fun s36 wr=>∃j:Nat,j<=m/\s36= .int .i64 (j:Int)/\Hid (∃A c tg2,VI W wo tg1 Bb Mb Cb Wb n us v K j A c wr tg2)) (fun s _=>m- (intOf s).toNat)
   case atStart=>exact⟨0,zBL _,rfl,kH ⟨none,0,tg1,HV0.out⟩⟩
   case round=>
    obtain⟨j,hj,rfl,HV⟩:=hrel
    by_cases hjm:j<m
    ·obtain⟨A,c,tg2,HV⟩:=HV.out;have hVd:=HV.drew;obtain⟨vk,hbk⟩:=hVd.bu;have hfr:=C.bBd (K:=K+j) (by omega);have hF:=aGv hbk (fun e=>e (K+j+2));rw[hfr]at hF;obtain⟨kx,hkx⟩:∃kx,K+2+j=kx:=⟨_,rfl⟩;rw[show K+j+2=kx from by omega]at hF;have Hkx:=kH hkx;clear hkx;have HFk:=kH hF;have HVd:=kH hVd;have HC1:=kH (show Cb<wr.drew.heap.size from zAL HCo.out hVd.sz);have hc1:wr.drew.cell? ⟨Cb,1+v,none⟩=some (.slice A j c):=by
      have hul:=Hul.out;rw[cell_of_row _ _ _ _ _ (0,0) hVd.row,zAR (by simp;omega),zAS (by simp)];simp[hul,hlt]
     have hc0:wr.drew.cell? ⟨Cb,0,none⟩=some (.pointer (some ⟨Bb,0,none⟩)):=by
      rw[cell_of_row _ _ _ _ _ (0,0) hVd.row];simp
     clear hVd hbk hfr hF HV
     go_upto_region 8 with(fail)
     refine aDw 17 (by kernel_rfl) (by kernel_rfl) ?_;simp only[List.take_succ_cons,List.take_zero];refine wpAny_of_held (S:=fun Y:World=>Y.cell? ⟨Cb,1+v,none⟩=some (.slice A j c)/\Y.cell? ⟨Cb,0,none⟩=some (.pointer (some ⟨Bb,0,none⟩))) _ _ _ _ ?_;have hHh:(fun Y:World=>Y.cell? ⟨Cb,1+v,none⟩=some (.slice A j c)/\Y.cell? ⟨Cb,0,none⟩=some (.pointer (some ⟨Bb,0,none⟩))) wr.drew:=⟨hc1,hc0⟩;refine tK 0 ?_;refine tK 1 ?_;refine tK 2 ?_;refine tK 3 ?_;refine tK 4 ?_;refine tK 5 ?_;refine tK 6 ?_;refine tK 7 ?_;refine tK 8 ?_;refine tK 9 ?_;refine tK 10 ?_;refine tK 11 ?_;refine tK 15 ?_;refine tK 16 ?_;refine rd 12 (fun KK hKK=>?_);clear hHh;go_simp;refine HFk.out.mono ?_;rintro e w5 ⟨rfl,tg5,v5,b5,u5⟩;have hCk:=u5.un.no Cb HC1.out HVd.out.tC;have HS5:=kH (show(fun Y:World=>Y.cell? ⟨Cb,1+v,none⟩=some (.slice A j c)/\Y.cell? ⟨Cb,0,none⟩=some (.pointer (some ⟨Bb,0,none⟩))) w5 from⟨(aBn hCk.2).trans hc1,(aBn hCk.2).trans hc0⟩);have Hk5:=kH (And.intro b5 u5);have HR5:=kH hCk.2;clear b5 u5 hCk HFk;refine hKK.out _ _ (HS5.out) (fun hHh=>?_);clear hKK KK
     try simp only[Act.put,yL]
     refine rd 13 (fun KK hKK=>?_);clear hHh;go_simp;obtain⟨w6,hw6⟩:∃w6,w6=w5.alloc (.cells #[.int .i64 ((kx:Nat):Int)] 3):=⟨_,rfl⟩;rw[<-hw6];have hb6:Below w5.heap.size w5 w6:=by rw[hw6];exact al0
     have hC5:Cb<w5.heap.size:=zAL HC1.out Hk5.out.2.un.size;have HS6:=kH (show(fun Y:World=>Y.cell? ⟨Cb,1+v,none⟩=some (.slice A j c)/\Y.cell? ⟨Cb,0,none⟩=some (.pointer (some ⟨Bb,0,none⟩))) w6 from⟨(hb6.cell (p:=⟨Cb,1+v,none⟩) hC5).trans HS5.out.1,(hb6.cell (p:=⟨Cb,0,none⟩) hC5).trans HS5.out.2⟩);have Hown6:=kH (show OwnAt w6 3 1 (.slice A j c) j (siv (C.aAz K j))from(HVd.out.own.same fun g hg=>(Hk5.out.2.un.no g (HVd.out.own.lt g hg) (HVd.out.new g hg).2).2).below hb6 fun g hg=>zAL (HVd.out.own.lt g hg) Hk5.out.2.un.size);have Hsr6:=kH (show w6.heap[w5.heap.size]? =some (.cells #[.int .i64 ((kx:Nat):Int)] 3 (0,0))from by rw[hw6];exact heap_alloc_new w5 _);have Hw6:=kH hw6;have HR6:=kH ((hb6.block Cb hC5).trans HR5.out);clear hb6 hC5 hw6;refine hKK.out _ _ (HS6.out) (fun hHh=>?_);clear hKK KK
     try simp only[Act.put,yL]
     refine rd 14 (fun KK hKK=>?_);clear hHh;refine aDx w6 (.tmp 45) (.tmp 51) 69 rfl 3 ii (.int .i64 0) 1 8 underlying69 Hii.out.1 Hii.out.2.1 Hii.out.2.2.1 Hii.out.2.2.2 rfl (.slice A j c) j (siv (C.aAz K j)) (by go_simp) Hown6.out ⟨w5.heap.size,0,none⟩ 1 1 [.int .i64 ((kx:Nat):Int)] (by go_simp) rfl (aJu Hsr6.out) (by simp[Value.oneCell']) (by simp only[maxLen];omega) (by omega) ?_;intro v' w7 hown hgr hat;obtain⟨A7,c7,hv⟩:=hown.form;subst hv;have hne7:(Value.slice A j c).ownBlock≠some Cb:=fun e=>by have:=(HVd.out.new Cb e).1;have:=HCo.out;omega
     have hC6:Cb<w6.heap.size:=by have:=HC1.out;have:=Hk5.out.2.un.size;rw[Hw6.out];simp;omega
     have hrow7:=hgr.block Cb hC6 hne7.symm;have HS7:=kH (show(fun Y:World=>Y.cell? ⟨Cb,1+v,none⟩=some (.slice A j c)/\Y.cell? ⟨Cb,0,none⟩=some (.pointer (some ⟨Bb,0,none⟩))) w7 from⟨(aBn hrow7).trans HS6.out.1,(aBn hrow7).trans HS6.out.2⟩);have Hst:=kH (HVd.out.step HCo.out HWC.out (by rw[Hul.out];exact hlt) Hul.out Hk5.out.1 Hk5.out.2 (by rw[Hkx.out];exact hown) (by rw[<-Hw6.out];exact hgr) (by rw[Hw6.out]at hat;rw[World.size_alloc]at hat;exact hat));refine hKK.out _ _ HS7.out (fun hHh=>?_);have hfz7:=aCm (hrow7.trans (HR6.out.trans HVd.out.row)) (1+v);have hcs7:=HS7.out.1;clear hKK KK hown hgr hat hrow7
     try simp only[Act.put,yL]
     refine wpAnyH_done (by kernel_rfl) ?_ _;go_wp2;go_roundw
     case rel=>exact⟨j+1,by omega,by go_num,kH ⟨A7,c7,tg5,Hst.out⟩⟩
     case measure=>simp[intOf];omega
    ·have hjm2:j=m:=by omega
     subst hjm2;obtain⟨A,c,tg2,HV⟩:=HV.out;obtain⟨q2,q3,q5,q6,r1,k1,hK,hK1⟩:=Hq.out;have hf:=HV.fin q2 Hul.out hlt (aC5 _ _ _) r1 k1;rw[<-hK,bD8 _ _ _ hlt]at hf;have hnx:=bB0 ws v hlt;rw[Hgd.out.2,zBA]at hnx;rw[hnx]at hf;obtain⟨vk,hbk⟩:=HV.bu;have hgwC:gw≠Cb:=fun e=>by
      rw[e,r1]at q5;injection q5 with q5
      injection q5 with _ q _
      exact absurd q (by decide)
     have hgk:=HV.keep gw Hgw.out q6 hgwC;have hcs:∀i,v+1<=i->i<4->wr.cell? ⟨Cb,1+i,none⟩=some (.slice none 0 0):=fun i h1 h2=>by
      have hul:=Hul.out;have h3:=q3 i (by omega) h2;rw[cell_of_row _ _ _ _ _ (0,0) r1,zAR (by simp;omega),zAS (by simp)]at h3;rw[cell_of_row _ _ _ _ _ (0,0) HV.row,zAR (by simp;omega),zAS (by simp)];have h4:¬v=i:=by omega
      simpa[List.getElem?_set,h4]using h3
     have HF:=kH (show∃tg vc,BAt wr W.heap.size Bb Mb tg vc (C.inB (C.total (ws.take (v+1))))/\CtAt wr tg Cb Bb Wb n (vst ws (v+1) 0) (List.replicate n [])/\(∀i,v+1<=i->i<4->wr.cell? ⟨Cb,1+i,none⟩=some (.slice none 0 0))/\Below W.heap.size W wr/\wr.heap[gw]? =some (.cells (ws.map (Value.int .i64)).toArray 3 (0,0))/\tg gw=none from⟨tg2,vk,by rw[hK1];exact hbk,hf,hcs,HV.bl,hgk.2.trans q5,hgk.1⟩);clear q2 q3 q5 q6 r1 k1 hK hK1 hf hnx hbk hgwC hgk hcs HV;go_wp2;go_roundw
     case rel=>exact⟨v+1,by omega,by go_num,HF⟩
     case measure=>simp[intOf];omega
  ·have hv4':v=4:=by omega
   subst hv4';obtain⟨tg1,vc1,q1,q2,q3,q4,q5,q6⟩:=HL.out;have htk:ws.take 4=ws:=zAK (by have:=Hws.out.2.1;omega);rw[htk]at q1;rw[bD9 ws Hws.out.2.1]at q2;have hNd:=aUg t (n-1) ct At wr (by rw[show n-1+1=n by omega];exact HT.out.below aAh q4) (by omega) (fun x hx a ha=>by
    obtain⟨k,hk⟩:=zAG hx;have:=(T.aAo (Ht.out.sh k x hk)).2.2.2.2.2 a ha;have hkl:=(zAA.1 hk).1;have:=Hlen.out;omega)
   rw[show n-1+1=n by omega]at hNd;have HNd:=kH hNd;have H3:=kH (And.intro q1 (And.intro q2 q4));have HWbW:=kH H2.out.2.2.2.2.2.1;have HCbW:=kH H2.out.2.2.2.2.1;clear HL q1 q2 q3 q4 q5 q6 htk hNd H2 Hrow
   go_wp2_with fail
   refine HNd.out.mono ?_;rintro e w3 ⟨rfl,hb3,hrow3⟩;obtain⟨gn,hgn⟩:∃gn,wr.heap.size=gn:=⟨_,rfl⟩;obtain⟨vars,hvars⟩:∃v,C.aAj ws 0=v:=⟨_,rfl⟩;have hK4:C.total ws<=3999:=by have:=Hws.out.2.2.1;omega
   obtain⟨b0,hb0⟩:∃b,C.inB (C.total ws)=b:=⟨_,rfl⟩;have hB0:C.Bo b0:=by rw[<-hb0];exact bFb hK4
   have hvl:vars.length=4:=by rw[<-hvars,C.aCc];exact Hws.out.2.1
   have hvw:∀x∈t,x.op=33->C.Wb (vars.getD x.imm.toNat [])/\(vars.getD x.imm.toNat []).length=x.w.toNat:=by
    rw[<-hvars,<-Hws.out.1];exact aZl Ht.out Hcl.out
   have hwords:C.words t=C.aAu vars t b0 n:=by unfold C.words;rw[Hws.out.1,hvars,hb0,Hlen.out]
   have hW0:(C.aAu vars t b0 0)=(List.replicate n [],b0):=by rw[C.aAu,Hlen.out]
   rw[hgn]at hrow3;have hub:=H3.out.1.up hb3;have HI0:=kH (show∃tg vc,BAt w3 W.heap.size Bb Mb tg vc (C.aAu vars t b0 0).2/\CtAt w3 tg Cb Bb Wb n vars (C.aAu vars t b0 0).1/\Below W.heap.size W w3/\tg gn=none/\w3.heap[gn]? =some (.cells ((R.need t).map Value.bool).toArray 4 (0,0))from
    ⟨tg1,vc1,by rw[hW0,<-hb0];exact H3.out.1.below hb3,by rw[hW0,<-hvars];exact H3.out.2.1.up hub,H3.out.2.2.trans (hb3.mono H3.out.2.2.size),by rw[<-hgn];exact H3.out.1.none_ (zBJ _),hrow3⟩)
   have HWb0:=kH (show∀k,k<=n->WsB t (C.aAu vars t b0 k) k from fun k=>by
    induction k with
    | zero=>exact fun _=>WsB.zero t hB0 vars
    | succ k ih=>exact fun hk=>(ih (by omega)).step Ht.out hvw (by have:=Hlen.out;omega))
   have Hvl:=kH (And.intro hvl (And.intro hwords (And.intro hvars hb0)));rw[hgn];clear hub hW0 hwords hvars hb0 hB0 hvl hvw hrow3 hb3 hgn H3 HNd;go_wp2
   go_loopw [62] (fun s62 wr=>∃k:Nat,k<=n/\s62= .int .i64 (k:Int)/\Hid (∃tg vc,BAt wr W.heap.size Bb Mb tg vc (C.aAu vars t b0 k).2/\CtAt wr tg Cb Bb Wb n vars (C.aAu vars t b0 k).1/\Below W.heap.size W wr/\tg gn=none/\wr.heap[gn]? =some (.cells ((R.need t).map Value.bool).toArray 4 (0,0)))) (fun s _=>n- (intOf s).toNat)
   case atStart=>exact⟨0,zBL _,rfl,HI0⟩
   case round=>
    obtain⟨k,hk,rfl,HL⟩:=hrel
    by_cases hkn:k<n
    ·obtain⟨tg3,vc3,q1,q2,q3,q4,q5⟩:=HL.out;obtain⟨x,b,off,Aa,ca,hx,rfl,hb,x0,x1,x2,x3,x4,hs,i0,i1⟩:=aBf HT.out hkn;have y0:=(q3.cell (p:=⟨b,off+k*5,none⟩) hb).trans x0;have y1:=(q3.cell (p:=⟨b,off+k*5+1,none⟩) hb).trans x1;have y2:=(q3.cell (p:=⟨b,off+k*5+2,none⟩) hb).trans x2;have y3:=(q3.cell (p:=⟨b,off+k*5+3,none⟩) hb).trans x3;have y4:=(q3.cell (p:=⟨b,off+k*5+4,none⟩) hb).trans x4;have hxd:t.getD k default=x:=by rw[List.getD,hx];rfl
     obtain⟨nk,hnk⟩:∃nk,(R.need t).getD k false=nk:=⟨_,rfl⟩;have hnl:(R.need t).length=n:=by rw[aZj,Hlen.out]
     have hnk2:(R.need t)[k]? =some nk:=by rw[<-hnk,List.getD,zAB (by omega)];rfl
     obtain⟨w4,hw4⟩:∃w4,w4=wr.alloc (.cells #[.int .i64 x.op, .int .i64 x.w, .int .i64 x.fl, .slice Aa x.args.length ca, .int .u32 x.imm] 56):=⟨_,rfl⟩;have hb4:Below wr.heap.size wr w4:=by rw[hw4];exact al0
     have hu4:=q1.up hb4;have B4:=q1.below hb4;have C4:=q2.up hu4;have hrow4:w4.heap[wr.heap.size]? =some (.cells #[.int .i64 x.op, .int .i64 x.w, .int .i64 x.fl, .slice Aa x.args.length ca, .int .u32 x.imm] 56 (0,0)):=by rw[hw4];exact heap_alloc_new wr _
     have hgr4:w4.heap[gn]? =some (.cells ((R.need t).map Value.bool).toArray 4 (0,0)):=(hb4.block gn (gA q5).1).trans q5;have cn4:w4.cell? ⟨gn,k,none⟩=some (.bool nk):=by rw[cell_of_row _ _ _ _ _ (0,0) hgr4,zAV,zAW,hnk2];rfl
     have cb4:=C4.cb.2.2;have cf4:=B4.c3;obtain⟨s,hss⟩:∃s,C.aAu vars t b0 k=s:=⟨_,rfl⟩;have hstep:C.aAu vars t b0 (k+1)=C.stepW vars t s k:=by rw[C.aAu,hss]
     have hWs:=HWb0.out k hk;rw[hss]at B4 C4 cf4 hWs;have Hst:=kH (And.intro hstep (And.intro hWs (And.intro hxd (And.intro hnk hx))));have H4:=kH (And.intro B4 (And.intro C4 (And.intro (q3.trans (hb4.mono q3.size)) (And.intro q4 hgr4))));have Hrow4:=kH hrow4;have Hnd:=kH (And.intro hs (And.intro i0 i1));have hxl:x.args.length<=9223372036854775807:=hs.le;have Hw4:=kH hw4;have Htb:=kH (show∀y q,tg3 y=some q->y<wr.heap.size from fun y q h=>(q1.lt y q h).2);obtain⟨bx,hbx⟩:∃bx,wr.heap.size=bx:=⟨_,rfl⟩;have Hbx:=kH hbx;clear q1 q2 q3 q4 q5 hb x0 x1 x2 x3 x4 hs i0 i1 hxd hnk hnk2 hnl hb4 hu4 B4 C4 hrow4 hgr4 hss hstep hWs HL hw4 hbx
     go_upto_region 15 with(fail)
     rw[<-Hw4.out,Hbx.out];cases nk with
     | false=>
      have HF:=kH (show∃tg vc,BAt w4 W.heap.size Bb Mb tg vc (C.aAu vars t b0 (k+1)).2/\CtAt w4 tg Cb Bb Wb n vars (C.aAu vars t b0 (k+1)).1/\Below W.heap.size W w4/\tg gn=none/\w4.heap[gn]? =some (.cells ((R.need t).map Value.bool).toArray 4 (0,0))from by
       have hst:C.stepW vars t s k=s:=by unfold C.stepW;rw[if_neg (fun q=>by rw[Hst.out.2.2.2.1]at q;exact absurd q.1 (by decide))]
       rw[Hst.out.1,hst];exact⟨tg3,vc3,H4.out⟩)
      go_wp2;go_roundw
      case rel=>exact⟨k+1,by omega,by go_num,HF⟩
      case measure=>simp[intOf];omega
     | true=>
      cases hfl:s.2.full with
      | true=>
       have HF:=kH (show∃tg vc,BAt w4 W.heap.size Bb Mb tg vc (C.aAu vars t b0 (k+1)).2/\CtAt w4 tg Cb Bb Wb n vars (C.aAu vars t b0 (k+1)).1/\Below W.heap.size W w4/\tg gn=none/\w4.heap[gn]? =some (.cells ((R.need t).map Value.bool).toArray 4 (0,0))from by
        have hst:C.stepW vars t s k=s:=by unfold C.stepW;rw[if_neg (fun q=>by rw[hfl]at q;exact absurd q.2 (by decide))]
        rw[Hst.out.1,hst];exact⟨tg3,vc3,H4.out⟩)
       rw[hfl]at cf4;clear hfl;go_wp2;go_roundw
       case rel=>exact⟨k+1,by omega,by go_num,HF⟩
       case measure=>simp[intOf];omega
      | false=>
       rw[hfl]at cf4;obtain⟨hwsb,hxd,hnk,hx⟩:=Hst.out.2;have hkt:k<t.length:=by have:=Hlen.out;omega
       obtain⟨kd,kwb,kal,kw0,kw1⟩:=hwsb.kind Ht.out hkt hnk hfl;rw[hxd]at kd kwb kal kw0 kw1;have hud:=H4.out.1.up ((Below.refl _ w4).drew);have hwl:s.1.length=n:=by rw[hwsb.len,Hlen.out]
       have hI:NoI w4.drew W.heap.size Bb Mb Cb Wb n tg3 vc3 s.2 vars s.1 x Aa:=⟨H4.out.1.dr ((Dr.refl _).drew),H4.out.2.1.up hud,hwl,Hvl.out.1,fun X hX=>Hnd.out.1.below (aAd _) (H4.out.2.2.1.drew.trans hX),Hnd.out.2,⟨kw0,kw1⟩,fun a ha=>by have:=kal a ha;omega,kwb⟩;have hN:=aZf (ca:=ca) hI kd;have hst:C.stepW vars t s k=(s.1.set k (C.node vars s.1 x s.2).1,(C.node vars s.1 x s.2).2):=by
        unfold C.stepW;rw[if_pos ⟨hnk,hfl⟩,hxd]
       obtain⟨r,hr⟩:∃r,C.node vars s.1 x s.2=r:=⟨_,rfl⟩;rw[hr]at hN hst;unfold ndV at hN;have HN:=kH hN;have Hs2:=kH (And.intro (Hst.out.1.trans hst) (And.intro hwl hud));have cw5:w4.drew.cell? ⟨Cb,5,none⟩=some (.slice (some ⟨Wb,0,none⟩) n n):=hI.c.c5;have hrw:=Hrow4.out;rw[Hbx.out]at hrw;have d0:w4.drew.cell? ⟨bx,0,none⟩=some (.int .i64 x.op):=by
        show w4.cell? _=_
        rw[cell_of_row _ _ _ _ _ (0,0) hrw];rfl
       have d1:w4.drew.cell? ⟨bx,1,none⟩=some (.int .i64 x.w):=by
        show w4.cell? _=_
        rw[cell_of_row _ _ _ _ _ (0,0) hrw];rfl
       have d2:w4.drew.cell? ⟨bx,2,none⟩=some (.int .i64 x.fl):=by
        show w4.cell? _=_
        rw[cell_of_row _ _ _ _ _ (0,0) hrw];rfl
       have d3:w4.drew.cell? ⟨bx,3,none⟩=some (.slice Aa x.args.length ca):=by
        show w4.cell? _=_
        rw[cell_of_row _ _ _ _ _ (0,0) hrw];rfl
       have d4:w4.drew.cell? ⟨bx,4,none⟩=some (.int .u32 x.imm):=by
        show w4.cell? _=_
        rw[cell_of_row _ _ _ _ _ (0,0) hrw];rfl
       have hbt:bx<w4.drew.heap.size:=(gA hrw).1;have htb:tg3 bx=none:=by
        cases e:tg3 bx with
        | none=>rfl
        | some q=>
         exfalso
         have h9:=Htb.out bx q e;have:=Hbx.out;omega
       have HB:=kH (And.intro hbt htb);clear hwsb hxd hnk hx kd kwb kal kw0 kw1 hud hwl hI hN hst hr hrw hbt htb hfl
       go_upto_region 16 with(fail)
       refine aDw 8 (by kernel_rfl) (by kernel_rfl) ?_;simp only[List.take_succ_cons,List.take_zero];refine wpAny_of_held (S:=fun Y:World=>Y.cell? ⟨Cb,5,none⟩=some (.slice (some ⟨Wb,0,none⟩) n n)/\Y.cell? ⟨bx,0,none⟩=some (.int .i64 x.op)/\Y.cell? ⟨bx,1,none⟩=some (.int .i64 x.w)/\Y.cell? ⟨bx,2,none⟩=some (.int .i64 x.fl)/\Y.cell? ⟨bx,3,none⟩=some (.slice Aa x.args.length ca)/\Y.cell? ⟨bx,4,none⟩=some (.int .u32 x.imm)) _ _ _ _ ?_;have hHh:(fun Y:World=>Y.cell? ⟨Cb,5,none⟩=some (.slice (some ⟨Wb,0,none⟩) n n)/\Y.cell? ⟨bx,0,none⟩=some (.int .i64 x.op)/\Y.cell? ⟨bx,1,none⟩=some (.int .i64 x.w)/\Y.cell? ⟨bx,2,none⟩=some (.int .i64 x.fl)/\Y.cell? ⟨bx,3,none⟩=some (.slice Aa x.args.length ca)/\Y.cell? ⟨bx,4,none⟩=some (.int .u32 x.imm)) w4.drew:=⟨cw5,d0,d1,d2,d3,d4⟩;refine tK 0 ?_;refine tK 1 ?_;refine tK 2 ?_;refine tK 3 ?_;refine tK 4 ?_;refine tK 5 ?_;refine tK 6 ?_;refine rd 7 (fun KK hKK=>?_);clear hHh;go_simp;refine HN.out.mono ?_;rintro e w5 ⟨A5,c5,tg5,v5,rfl,b5,u5,wd5⟩;have h5:=u5.un.no bx HB.out.1 HB.out.2;have h5c:=u5.un.no Cb (zAL H4.out.2.1.ltC (zBJ _)) H4.out.2.1.tC;have HS5:=kH (show(fun Y:World=>Y.cell? ⟨Cb,5,none⟩=some (.slice (some ⟨Wb,0,none⟩) n n)/\Y.cell? ⟨bx,0,none⟩=some (.int .i64 x.op)/\Y.cell? ⟨bx,1,none⟩=some (.int .i64 x.w)/\Y.cell? ⟨bx,2,none⟩=some (.int .i64 x.fl)/\Y.cell? ⟨bx,3,none⟩=some (.slice Aa x.args.length ca)/\Y.cell? ⟨bx,4,none⟩=some (.int .u32 x.imm)) w5 from⟨(aBn h5c.2).trans cw5,(aBn h5.2).trans d0,(aBn h5.2).trans d1,(aBn h5.2).trans d2,(aBn h5.2).trans d3,(aBn h5.2).trans d4⟩);have Hk5:=kH (And.intro b5 (And.intro u5 wd5));clear b5 u5 wd5 h5 h5c HN;refine hKK.out _ _ (HS5.out) (fun hHh=>?_);clear hKK KK
       try simp only[Act.put,yL]
       refine wpAnyH_done (by kernel_rfl) ?_ _;have hu5:=Hs2.out.2.2.trans Hk5.out.2.1;have hC5:=H4.out.2.1.up hu5;obtain⟨l5,hl5⟩:∃l,s.1[k]? =some l:=⟨_,zAB (by rw[Hs2.out.2.1];exact hkn)⟩;obtain⟨Ak,ck,_,cwk,_⟩:=hC5.word hl5;have fwk:=hC5.frzW k;obtain⟨lr,hlr⟩:∃lr,r.1.length=lr:=⟨_,rfl⟩;have HF:=kH (show∃tg vc,BAt (w5.setCell ⟨Wb,k,none⟩ (.slice A5 lr c5)) W.heap.size Bb Mb tg vc (C.aAu vars t b0 (k+1)).2/\CtAt (w5.setCell ⟨Wb,k,none⟩ (.slice A5 lr c5)) tg Cb Bb Wb n vars (C.aAu vars t b0 (k+1)).1/\Below W.heap.size W (w5.setCell ⟨Wb,k,none⟩ (.slice A5 lr c5))/\tg gn=none/\(w5.setCell ⟨Wb,k,none⟩ (.slice A5 lr c5)).heap[gn]? =some (.cells ((R.need t).map Value.bool).toArray 4 (0,0))from by
        rw[Hs2.out.1,<-hlr];have hgn:=hu5.un.no gn (gA H4.out.2.2.2.2).1 H4.out.2.2.2.1;have hgw:gn≠Wb:=fun e=>by
         obtain⟨vs,_,r2,_⟩:=H4.out.2.1.wrow;have:=H4.out.2.2.2.2;rw[e,r2]at this;injection this with this
         injection this with _ q _
         exact absurd q (by decide)
        refine⟨tg5,v5,Hk5.out.1.frame (by rw[aAf];exact zBJ _) (fun y q hy=>Below.heap_setCell w5 ⟨Wb,k,none⟩ _ y (fun e=>by
         have e:y=Wb:=e;rw[e,hC5.tW]at hy;cases hy)),hC5.setW Hs2.out.2.1 Hk5.out.2.2 hC5.neCW,(H4.out.2.2.1.trans hu5.bl).setCell (p:=⟨Wb,k,none⟩) HWbW.out _,hgn.1,(Below.heap_setCell w5 ⟨Wb,k,none⟩ _ gn hgw).trans (hgn.2.trans H4.out.2.2.2.2)⟩)
       rw[hlr];clear hu5 hC5 hl5 hlr;go_wp2;go_roundw
       case rel=>exact⟨k+1,by omega,by go_num,HF⟩
       case measure=>simp[intOf];omega
    ·have hkn':k=n:=by omega
     subst hkn';obtain⟨tg3,vc3,q1,q2,q3,_,_⟩:=HL.out;have hwb:=HWb0.out k (zBJ _);have hbd:C.build t=if(C.aAu vars t b0 k).2.full=true then none else if(C.aBs ((C.aAu vars t b0 k).1.getD (k-1) []) (C.aAu vars t b0 k).2 ((C.aAu vars t b0 k).1.getD (k-1) []).length).full=true then none else some ⟨C.aBs ((C.aAu vars t b0 k).1.getD (k-1) []) (C.aAu vars t b0 k).2 ((C.aAu vars t b0 k).1.getD (k-1) []).length,vars,((C.aAu vars t b0 k).2.n:Int)+1⟩:=by
      unfold C.build;rw[Hvl.out.2.1,Hlen.out,Hws.out.1,Hvl.out.2.2.1]
     obtain⟨s,hss⟩:∃s,C.aAu vars t b0 k=s:=⟨_,rfl⟩;rw[hss]at q1 q2 hwb hbd;have cb:=q2.cb.2.2;have cf:=q1.c3;have Hbd:=kH hbd;have H5:=kH (And.intro q1 (And.intro q2 (And.intro q3 hwb)));clear q1 q2 q3 hwb hbd hss HL HWb0;cases hfl:s.2.full with
     | true=>
      rw[hfl]at cf;have hbn:C.build t=none:=by rw[Hbd.out,if_pos hfl]
      have Hbn:=kH hbn;clear hfl hbn;go_wp2;refine bodyPost_ret (aBo rfl _ _ _) rfl ?_;exact⟨H5.out.2.2.1, .inl ⟨Hbn.out,rfl⟩⟩
     | false=>
      rw[hfl]at cf;have c0:=H5.out.1.c0;have c5:=H5.out.2.1.c5;have hbo:=H5.out.1.bo;have hroot:=H5.out.2.2.2.ws hfl (k-1) (by omega) (by have:=Ht.out.root;rw[Hlen.out]at this;exact this);obtain⟨wl,hwl⟩:∃wl,s.1.getD (k-1) []=wl:=⟨_,rfl⟩;have hwl2:s.1[k-1]? =some wl:=by rw[<-hwl,List.getD,zAB (by rw[H5.out.2.2.2.len,Hlen.out];omega)];rfl
      obtain⟨Ar,cr,_,cw,hwr⟩:=H5.out.2.1.word hwl2;rw[hwl]at hroot;obtain⟨lw,hlw⟩:∃lw,wl.length=lw:=⟨_,rfl⟩;rw[hlw]at cw;obtain⟨k1,hk1⟩:∃k1,k-1=k1:=⟨_,rfl⟩;rw[hk1]at cw;have hki:((k:Nat):Int)-1=((k1:Nat):Int):=by omega
      have hkw:IntKind.i64.wrap ((k:Int)-1)=(k1:Int):=by rw[hki];exact IntWalk.i64_in _ (by omega)
      have hk1n:k1<k:=by omega
      obtain⟨bn,hbn⟩:∃bn,s.2.n=bn:=⟨_,rfl⟩;rw[hbn]at c0;have hbn4:bn<=4000:=by rw[<-hbn];exact hbo.n
      have hlw32:lw<=32:=by
       have:=(T.aAo (Ht.out.sh (k-1) _ (aNz (by have:=Hlen.out;omega)))).2.2.2.1;have:=hroot.2;omega
      have Hbd2:=kH (show C.build t=if(C.aBs wl s.2 lw).full=true then none else some ⟨C.aBs wl s.2 lw,vars,(bn:Int)+1⟩from by rw[Hbd.out,if_neg (by rw[hfl];decide),hwl,hlw,hbn]);have Hw:=kH (And.intro hlw hroot.1);have HI:=kH (show∃tg vc,BAt wr W.heap.size Bb Mb tg vc (C.aBs wl s.2 0)/\CtAt wr tg Cb Bb Wb k vars s.1/\Below W.heap.size W wr/\WdAt wr tg Ar cr wl from⟨tg3,vc3,H5.out.1,H5.out.2.1,H5.out.2.2.1,hwr⟩);clear hbo hroot hwl hwl2 hwr hlw hk1 hbn hfl Hbd H5 hki;go_wp2
      go_loopw [116] (fun s116 wr=>∃i:Nat,i<=lw/\s116= .int .i64 (i:Int)/\Hid (∃tg vc,BAt wr W.heap.size Bb Mb tg vc (C.aBs wl s.2 i)/\CtAt wr tg Cb Bb Wb k vars s.1/\Below W.heap.size W wr/\WdAt wr tg Ar cr wl)) (fun s _=>lw- (intOf s).toNat)
      case atStart=>exact⟨0,zBL _,rfl,HI⟩
      case round=>
       clear HI;obtain⟨i,hi,rfl,HL⟩:=hrel
       by_cases hil:i<lw
       ·obtain⟨tg6,vc6,q1,q2,q3,q4⟩:=HL.out;have hil2:i<wl.length:=by rw[Hw.out.1];exact hil
        obtain⟨ga,oa,rfl,e1⟩:=q4.cell hil2;have ill:C.Ib (wl.getD i 0):=wb_at Hw.out.2 hil2;obtain⟨l,hl⟩:∃l,wl.getD i 0=l:=⟨_,rfl⟩;obtain⟨bi,hbi⟩:∃b,C.aBs wl s.2 i=b:=⟨_,rfl⟩;have hst:C.aBs wl s.2 (i+1)=C.clause [(C.fresh (fun e=>C.lsem bi l e) bi).1,-l] (C.clause [-(C.fresh (fun e=>C.lsem bi l e) bi).1,l] (C.fresh (fun e=>C.lsem bi l e) bi).2):=by
         rw[C.aBs,hl,hbi];rfl
        rw[hl]at e1 ill;rw[hbi]at q1;have hfb:=C.aMf (f:=fun e=>C.lsem bi l e) q1.bo;have hF:=aGv q1 (fun e=>C.lsem bi l e);obtain⟨⟨out,b1⟩,hr⟩:∃r,C.fresh (fun e=>C.lsem bi l e) bi=r:=⟨_,rfl⟩;rw[hr]at hF hfb hst;obtain⟨_,ho1,ho2⟩:=hfb;have ho1:1<=out:=ho1;have ho2:out<=4000:=ho2;have cb:=q2.cb.2.2;unfold C.Ib at ill;have HF:=kH hF;have Hst:=kH hst;have Hq:=kH (And.intro q2 (And.intro q3 q4));clear q1 q2 q3 q4 hil2 hl hbi hst hF hr HL
        go_wp2_with fail
        refine HF.out.mono ?_;rintro e w1 ⟨rfl,tg7,v7,b7,u7⟩;obtain⟨w2,hw2⟩:∃w2,w2=w1.alloc (.cells #[.int .i64 (-out), .int .i64 l] 3):=⟨_,rfl⟩;have hb2:Below w1.heap.size w1 w2:=by rw[hw2];exact al0
        have hW1:W.heap.size<=w1.heap.size:=zBK Hq.out.2.1.size u7.un.size;have hnew2:∀g,(Value.slice (some ⟨w1.heap.size,0,none⟩) 2 2).ownBlock=some g->w1.heap.size<=g:=fun g hg=>by
         have e:w1.heap.size=g:=by simpa[Value.ownBlock]using hg
         omega
        have hC2:=aGb (b7.below hb2) (A:=some ⟨w1.heap.size,0,none⟩) (cap:=2) (c:= [-out,l]) (by rw[hw2];exact OwnAt.of_new w1 #[.int .i64 (-out), .int .i64 l] 2 (by simp) (by decide)) (fun g hg=>⟨zBK hW1 (hnew2 g hg),b7.none_ (hnew2 g hg)⟩) (by simp);simp only[List.length_cons,List.length_nil,zBH,Nat.reduceAdd]at hC2;have HC2:=kH hC2;have cb1:=(Hq.out.1.up u7).cb.2.2;have Hk1:=kH (And.intro b7 (And.intro u7 (And.intro hb2 (And.intro hnew2 hW1))));have cb2:w2.cell? ⟨Cb,0,none⟩=some (.pointer (some ⟨Bb,0,none⟩)):=(hb2.cell (p:=⟨Cb,0,none⟩) (Hq.out.1.up u7).ltC).trans cb1;clear b7 u7 hb2 hW1 hnew2 hC2 HF e1 cb
        go_wp2_with fail
        rw[<-hw2];refine HC2.out.mono ?_;rintro e w3 ⟨rfl,hp3⟩;obtain⟨tg8,v8,b8,u8⟩:=aPy Hk1.out.2.2.1 Hk1.out.2.2.2.2 Hk1.out.2.2.2.1 (fun x t h=>(Hk1.out.1.lt x t h).2) hp3;have hu38:=Hk1.out.2.1.trans u8;obtain⟨w4,hw4⟩:∃w4,w4=w3.alloc (.cells #[.int .i64 out, .int .i64 (-l)] 3):=⟨_,rfl⟩;have hb4:Below w3.heap.size w3 w4:=by rw[hw4];exact al0
        have hW3:W.heap.size<=w3.heap.size:=zBK Hq.out.2.1.size hu38.un.size;have hnew4:∀g,(Value.slice (some ⟨w3.heap.size,0,none⟩) 2 2).ownBlock=some g->w3.heap.size<=g:=fun g hg=>by
         have e:w3.heap.size=g:=by simpa[Value.ownBlock]using hg
         omega
        have hC4:=aGb (b8.below hb4) (A:=some ⟨w3.heap.size,0,none⟩) (cap:=2) (c:= [out,-l]) (by rw[hw4];exact OwnAt.of_new w3 #[.int .i64 out, .int .i64 (-l)] 2 (by simp) (by decide)) (fun g hg=>⟨zBK hW3 (hnew4 g hg),b8.none_ (hnew4 g hg)⟩) (by simp);simp only[List.length_cons,List.length_nil,zBH,Nat.reduceAdd]at hC4;have HC4:=kH hC4;have cb3:=(Hq.out.1.up hu38).cb.2.2;have cb4:w4.cell? ⟨Cb,0,none⟩=some (.pointer (some ⟨Bb,0,none⟩)):=(hb4.cell (p:=⟨Cb,0,none⟩) (Hq.out.1.up hu38).ltC).trans cb3;have Hk3:=kH (And.intro b8 (And.intro hu38 (And.intro hb4 (And.intro hnew4 hW3))));clear hp3 b8 u8 hu38 hb4 hW3 hnew4 hC4 hw2 HC2 cb1 cb2
        go_wp2_with fail
        rw[<-hw4];refine HC4.out.mono ?_;rintro e w5 ⟨rfl,hp5⟩;obtain⟨tg9,v9,b9,u9⟩:=aPy Hk3.out.2.2.1 Hk3.out.2.2.2.2 Hk3.out.2.2.2.1 (fun x t h=>(Hk3.out.1.lt x t h).2) hp5;have hu59:=Hk3.out.2.1.trans u9;have HF:=kH (show∃tg vc,BAt w5 W.heap.size Bb Mb tg vc (C.aBs wl s.2 (i+1))/\CtAt w5 tg Cb Bb Wb k vars s.1/\Below W.heap.size W w5/\WdAt w5 tg (some ⟨ga,oa,none⟩) cr wl from⟨tg9,v9,by rw[Hst.out];exact b9,Hq.out.1.up hu59,Hq.out.2.1.trans hu59.bl,Hq.out.2.2.up hu59⟩);clear hp5 b9 u9 hu59 hw4 HC4 cb3 cb4;go_wp2;go_roundw
        case rel=>exact⟨i+1,by omega,by go_num,HF⟩
        case measure=>simp[intOf];omega
       ·have hil':i=lw:=by omega
        subst hil';obtain⟨tg6,vc6,q1,q2,q3,q4⟩:=HL.out;have cb:=q2.cb.2.2;have cf:=q1.c3;have Hq:=kH (And.intro q1 (And.intro q2 q3));clear q1 q2 q3 q4 HL;cases hfl:(C.aBs wl s.2 i).full with
        | true=>
         rw[hfl]at cf;have Hbn:=kH (show C.build t=none from by rw[Hbd2.out,if_pos hfl]);clear hfl;go_wp2;refine bodyPost_ret (aBo rfl _ _ _) rfl ?_;exact⟨Hq.out.2.2, .inl ⟨Hbn.out,rfl⟩⟩
        | false=>
         rw[hfl]at cf;have Hbn:=kH (show C.build t=some ⟨C.aBs wl s.2 i,vars,(bn:Int)+1⟩from by rw[Hbd2.out,if_neg (by rw[hfl];decide)]);clear hfl;go_wp2;refine bodyPost_ret (aBo rfl _ _ _) rfl ?_;exact⟨Hq.out.2.2, .inr ⟨_,Cb,Bb,Mb,Wb,tg6,vc6,s.1,Hbn.out,rfl,Hq.out.1,Hq.out.2.1,HCbW.out⟩⟩
theorem CtAt.same{w w':World}{tg:TgF}{Cb Bb Wb n:Nat}{vars words:List (List Int)}(h:CtAt w tg Cb Bb Wb n vars words)(hk:∀x,x<w.heap.size->tg x=none->w'.heap[x]? =w.heap[x]?):CtAt w' tg Cb Bb Wb n vars words:=by
 have hw:∀{v:Value} {l:List Int},WdV w tg v l->WdV w' tg v l:=fun⟨A,c,e,q⟩=>⟨A,c,e,q.1.same fun g hg=>hk g (q.1.lt g hg) (q.2 g hg),q.2⟩
 obtain⟨us,l1,r1,k1⟩:=h.row;obtain⟨vs,l2,r2,k2⟩:=h.wrow;refine⟨⟨us,l1,(hk _ h.ltC h.tC).trans r1,fun i l hi=>?_⟩,⟨vs,l2,(hk _ h.ltW h.tW).trans r2,fun i l hi=>?_⟩,h.tC,h.tW⟩
 ·obtain⟨v,e,q⟩:=k1 i l hi;exact⟨v,e,hw q⟩
 ·obtain⟨v,e,q⟩:=k2 i l hi;exact⟨v,e,hw q⟩
structure WiAt(w:World)(tg:TgF)(Cb Bb Wb n:Nat)(c:C.Circ)(z:Int)(words:List (List Int))(A:Option Addr)(cap:Nat):Prop where
 ct:CtAt w tg Cb Bb Wb n c.vars words
 nn:w.cell? ⟨Bb,0,none⟩=some (.int .i64 (c.b.n:Int))
 l:w.cell? ⟨Bb,1,none⟩=some (.slice A (c.b.cls.length+1) cap)
 r:SlAt (SlR (IntR .i64)) w A (c.b.cls.length+1) (C.aAl c z)
 bl:Bb<w.heap.size
theorem aCd:MonoR (SlR (IntR .i64)):=fun w w' u x hb ⟨A,c,e,h⟩=>⟨A,c,e,h.below (aAd _) hb⟩
def WithE(t:List T.Nd)(n:Nat)(z:Int)(W:World)(e:Ending)(w':World):Prop:=
 Below W.heap.size W w'/\((aAb t≠0/\e= .returned (.tuple #[.pointer none, .int .i64 (aAb t)]))\/
  (aAb t=0/\C.build t=none/\e= .returned (.tuple #[.pointer none, .int .i64 3]))\/
  (aAb t=0/\∃c Cb Bb Wb tg words A cap,C.build t=some c/\C.Bo c.b/\e= .returned (.tuple #[.pointer (some ⟨Cb,0,none⟩), .int .i64 0])/\WiAt w' tg Cb Bb Wb n c z words A cap))
theorem Tryz.sinfoL:∃ii,prog.info? 37=some ii/\ii.zero=some (.slice none 0 0)/\ii.size=1/\ii.bytes=24:=by
 have h:=Tryz.sinfoInts;cases e:prog.info? 37 with
 | none=>rw[e]at h;cases h
 | some ii=>
  rw[e]at h;simp only[Option.map_some,Option.some.injEq,Prod.mk.injEq]at h;exact⟨ii,rfl,h.1,h.2.1,h.2.2⟩
theorem aMs(t:List T.Nd)(n ct:Nat)(At:Option Addr)(W:World)(z:Int)(hz:z=1\/z= -1)(hT:StAt 5 NdR W At n t):
 Calls prog 35 #[.slice At n ct, .int .i64 z] W (WithE t n z W):=by
 have HC:=kH (aH4 t n ct At W hT);have HT:=kH hT;have hv:aAb t=0->T.valid true t=0:=fun h=>by
  unfold aAb at h
  by_cases q:T.valid true t=0
  ·exact q
  ·rw[if_pos q]at h;exact absurd h q
 have HB:=kH (fun(h:aAb t=0) X (hX:Below W.heap.size W X)=>aN3 t n ct At X (hT.below aAh hX) (hv h));have Hz:=kH hz;obtain⟨ce,hce⟩:∃c,aAb t=c:=⟨_,rfl⟩;rw[hce]at HC;have Hce:=kH hce;clear hT hv hz hce
 by_cases h0:ce=0
 ·subst h0
  go_enter func35,ntmps35
  go_wp2_with fail
  refine HC.out.mono ?_;rintro e w1 ⟨rfl,hb1⟩;have HBk:=kH (HB.out Hce.out w1 hb1);have Hb1:=kH hb1;clear hb1 HC HB
  go_wp2_with fail
  refine HBk.out.mono ?_;rintro e w2 ⟨hb2,⟨hbn,rfl⟩ |⟨c,Cb,Bb,Mb,Wb,tg,vc,words,hbs,rfl,b2,c2,hC2⟩⟩
  ·have Hf:=kH (And.intro (Hb1.out.trans (hb2.mono Hb1.out.size)) hbn);clear hb2 hbn HBk;go_wp2;refine bodyPost_ret (results_tmp2 rfl _ _ _) rfl ?_;exact⟨Hf.out.1, .inr (.inl ⟨Hce.out,Hf.out.2,rfl⟩)⟩
  ·obtain⟨us,k1,k2⟩:=b2.cl;obtain⟨m0,hm0⟩:∃m,c.b.cls.length=m:=⟨_,rfl⟩;obtain⟨Ac,cc,hvc⟩:=k1.1.form;rw[hm0]at hvc;have hm9:m0<=23999:=by rw[<-hm0];exact b2.bo.c
   obtain⟨rt,hrt⟩:∃r,c.root=r:=⟨_,rfl⟩;have hrb:1<=rt/\rt<=4001:=by
    have hn:=b2.bo.n;have:=aXh hbs;rw[hrt]at this;omega
   have c0:=c2.cb.2.2;have cl:=b2.c1;rw[hvc]at cl;obtain⟨zr,hzr⟩:∃r,z*rt=r:=⟨_,rfl⟩;have hzb: -4001<=zr/\zr<=4001:=by
    rcases Hz.out with q | q
    ·rw[<-hzr,q];omega
    ·rw[<-hzr,q];omega
   have hwz:IntKind.i64.wrap (z*rt)=zr:=by rw[hzr];exact IntWalk.i64_in _ (by omega)
   have HS0:=kH (show(fun Y:World=>Y.cell? ⟨Cb,0,none⟩=some (.pointer (some ⟨Bb,0,none⟩))/\Y.cell? ⟨Bb,1,none⟩=some (.slice Ac m0 cc)) w2.drew from⟨c0,cl⟩);have H2:=kH (And.intro b2 (And.intro c2 (And.intro (Hb1.out.trans (hb2.mono Hb1.out.size)) (And.intro hC2 hb2.size))));have Hu:=kH (And.intro k1 (And.intro k2 (And.intro hm0 (And.intro hvc (And.intro hbs (And.intro hrt hzr))))));obtain⟨ii,hi1,hz1,hs1,hy1⟩:=Tryz.sinfoL;have Hii:=kH (And.intro hi1 (And.intro hz1 (And.intro hs1 hy1)));have HBbs:=kH (And.intro (b2.lt Bb _ b2.st.2).2 c2.ltC);have hown0:OwnAt w2 37 1 (.slice Ac m0 cc) m0 us:=by have q:=k1.1;rw[hvc,hm0]at q;exact q
   have Hown0:=kH hown0;rw[hrt];clear b2 c2 hb2 hC2 k1 k2 hm0 hvc hbs hrt hzr hi1 hz1 hs1 hy1 hown0 HBk
   go_upto_region 7 with(fail)
   refine aDw 17 (by kernel_rfl) (by kernel_rfl) ?_;simp only[List.take_succ_cons,List.take_zero];refine wpAny_of_held (S:=fun Y:World=>Y.cell? ⟨Cb,0,none⟩=some (.pointer (some ⟨Bb,0,none⟩))/\Y.cell? ⟨Bb,1,none⟩=some (.slice Ac m0 cc)) _ _ _ _ ?_;have hHh:(fun Y:World=>Y.cell? ⟨Cb,0,none⟩=some (.pointer (some ⟨Bb,0,none⟩))/\Y.cell? ⟨Bb,1,none⟩=some (.slice Ac m0 cc)) w2.drew:=HS0.out;refine tK 0 ?_;refine tK 1 ?_;refine tK 2 ?_;refine tK 3 ?_;refine tK 4 ?_;refine tK 5 ?_;refine tK 6 ?_;refine tK 7 ?_;refine tK 8 ?_;refine tK 9 ?_;refine tK 10 ?_;refine tK 11 ?_;refine tK 12 ?_;refine tK 13 ?_;refine rd 14 (fun KK hKK=>?_);clear hHh;go_simp;obtain⟨w3,hw3⟩:∃w3,w3=(w2.alloc (.cells #[.int .i64 zr] 3)).drew:=⟨_,rfl⟩;rw[<-hw3];have hb3:Below w2.heap.size w2 w3:=by rw[hw3];exact(al0).drew
   have hs3:w3.heap.size=w2.heap.size+1:=by rw[hw3];simp
   have hr3:w3.heap[w2.heap.size]? =some (.cells #[.int .i64 zr] 3 (0,0)):=by rw[hw3];exact heap_alloc_new w2 _
   have HS3:=kH (show(fun Y:World=>Y.cell? ⟨Cb,0,none⟩=some (.pointer (some ⟨Bb,0,none⟩))/\Y.cell? ⟨Bb,1,none⟩=some (.slice Ac m0 cc)) w3 from⟨(hb3.cell (p:=⟨Cb,0,none⟩) HBbs.out.2).trans HS0.out.1,(hb3.cell (p:=⟨Bb,1,none⟩) HBbs.out.1).trans HS0.out.2⟩);have H3:=kH (And.intro hb3 (And.intro hs3 hr3));clear hb3 hs3 hr3 hw3;refine hKK.out _ _ (HS3.out) (fun hHh=>?_);clear hKK KK
   try simp only[Act.put,yL]
   refine rd 15 (fun KK hKK=>?_);clear hHh;go_simp;obtain⟨w4,hw4⟩:∃w4,w4=w3.alloc (.cells #[.slice (some ⟨w2.heap.size,0,none⟩) 1 1] 37):=⟨_,rfl⟩
   first | rw[<-hw4] | skip
   have hb4:Below w3.heap.size w3 w4:=by rw[hw4];exact al0
   have hs4:w4.heap.size=w2.heap.size+2:=by rw[hw4];simp[H3.out.2.1]
   have hr4:w4.heap[w3.heap.size]? =some (.cells #[.slice (some ⟨w2.heap.size,0,none⟩) 1 1] 37 (0,0)):=by rw[hw4];exact heap_alloc_new w3 _
   have hbb:Below w2.heap.size w2 w4:=H3.out.1.trans (hb4.mono (by have:=H3.out.2.1;omega));have HS4:=kH (show(fun Y:World=>Y.cell? ⟨Cb,0,none⟩=some (.pointer (some ⟨Bb,0,none⟩))/\Y.cell? ⟨Bb,1,none⟩=some (.slice Ac m0 cc)) w4 from⟨(hbb.cell (p:=⟨Cb,0,none⟩) HBbs.out.2).trans HS0.out.1,(hbb.cell (p:=⟨Bb,1,none⟩) HBbs.out.1).trans HS0.out.2⟩);have H4:=kH (And.intro hbb (And.intro hs4 (And.intro hr4 (And.intro ((hb4.block _ (by have:=H3.out.2.1;omega)).trans H3.out.2.2) hw4))));clear hb4 hs4 hr4 hbb hw4;refine hKK.out _ _ (HS4.out) (fun hHh=>?_);clear hKK KK
   try simp only[Act.put,yL]
   refine rd 16 (fun KK hKK=>?_);clear hHh;refine aDx w4 (.tmp 34) (.tmp 39) 25 rfl 37 ii (.slice none 0 0) 1 24 underlying25 Hii.out.1 Hii.out.2.1 Hii.out.2.2.1 Hii.out.2.2.2 rfl (.slice Ac m0 cc) m0 us (by go_simp) (Hown0.out.below H4.out.1 Hown0.out.lt) ⟨w3.heap.size,0,none⟩ 1 1 [.slice (some ⟨w2.heap.size,0,none⟩) 1 1] (by go_simp) rfl (aJu H4.out.2.2.1) (by simp[Value.oneCell']) (by simp only[maxLen];omega) (by omega) ?_;intro v' w5 hown hgr hat;obtain⟨A5,c5,hv5⟩:=hown.form;subst hv5;have htgc:∀g,(Value.slice Ac m0 cc).ownBlock=some g->tg g=some .cls:=fun g hg=>Hu.out.1.2 g (by rw[Hu.out.2.2.2.1];exact hg)
   have hneC:(Value.slice Ac m0 cc).ownBlock≠some Cb:=fun e=>by have:=htgc Cb e;rw[H2.out.2.1.tC]at this;cases this
   have hneB:(Value.slice Ac m0 cc).ownBlock≠some Bb:=fun e=>by have:=htgc Bb e;rw[H2.out.1.st.2]at this;cases this
   have hrC:=hgr.block Cb (by have:=HBbs.out;have:=H4.out.2.1;omega) hneC.symm;have hrB:=hgr.block Bb (by have:=HBbs.out;have:=H4.out.2.1;omega) hneB.symm;have HS5:=kH (show(fun Y:World=>Y.cell? ⟨Cb,0,none⟩=some (.pointer (some ⟨Bb,0,none⟩))/\Y.cell? ⟨Bb,1,none⟩=some (.slice Ac m0 cc)) w5 from⟨(aBn hrC).trans HS4.out.1,(aBn hrB).trans HS4.out.2⟩);have hrowB:=hrB.trans ((H4.out.1.block Bb HBbs.out.1).trans H2.out.1.st.1);have hfz5:=aCm hrowB 1;have hcl5:=HS5.out.2;have H5:=kH (And.intro hown (And.intro hgr (And.intro hat (And.intro hrowB (And.intro htgc hrC)))));refine hKK.out _ _ HS5.out (fun hHh=>?_);clear hKK KK hown hgr hat hrowB htgc hneC hneB hrC hrB
   try simp only[Act.put,yL]
   refine wpAnyH_done (by kernel_rfl) ?_ _;have hcn:c.b.cls.length=m0:=Hu.out.2.2.1;have hk6:∀x,x<w2.heap.size->x≠Bb->(Value.slice Ac m0 cc).ownBlock≠some x->(w5.setCell ⟨Bb,1,none⟩ (.slice A5 (m0+1) c5)).heap[x]? =w2.heap[x]? :=fun x hx h1 h2=>(Below.heap_setCell w5 ⟨Bb,1,none⟩ _ x h1).trans ((H5.out.2.1.block x (by have:=H4.out.2.1;omega) h2.symm).trans (H4.out.1.block x hx))
   have hct:CtAt (w5.setCell ⟨Bb,1,none⟩ (.slice A5 (m0+1) c5)) tg Cb Bb Wb n c.vars words:=H2.out.2.1.same fun x hx hn=>hk6 x hx (fun e=>by rw[e,H2.out.1.st.2]at hn;cases hn) (fun e=>by rw[H5.out.2.2.2.2.1 x e]at hn;cases hn)
   have hrow6:=heap_setCell_same w5 Bb 1 _ _ (.slice A5 (m0+1) c5) H5.out.2.2.2.1;have hown6:OwnAt (w5.setCell ⟨Bb,1,none⟩ (.slice A5 (m0+1) c5)) 37 1 (.slice A5 (m0+1) c5) (m0+1) (us ++ [.slice (some ⟨w2.heap.size,0,none⟩) 1 1]):=H5.out.1.setCell (p:=⟨Bb,1,none⟩) (fun e=>by
    rcases H5.out.2.2.1 with q | q
    ·rw[q]at e;have h9:=H5.out.2.2.2.2.1 Bb e;rw[H2.out.1.st.2]at h9;cases h9
    ·rw[q]at e;have e:=zAH e;have:=HBbs.out.1;have:=H4.out.2.1;have e:w4.heap.size=Bb:=e;omega) _
   have hul:us.length=m0:=by have h9:=Hu.out.2.1.1;rw[zAY]at h9;omega
   have hlen:(C.aAl c z).length=m0+1:=by unfold C.aAl;rw[zAX,hcn];rfl
   have hrd:=aMq (cs:=C.aAl c z) (by rw[hlen];exact hown6) (by rw[hlen,zAX,hul];rfl) (fun k x hx=>by
    unfold C.aAl at hx;rcases Nat.lt_or_ge k c.b.cls.length with hlt | hge
    ·rw[zAE hlt]at hx;obtain⟨u,hu1,hu2,hu3⟩:=Hu.out.2.1.2 k (siv x) (by rw[zAW,hx];rfl);rw[aBu]at hu2;refine⟨u,by rw[zAE (by omega)];exact hu1,hu2.same fun g hg=>hk6 g (hu2.lt g hg) (fun e=>?_) (fun e=>?_)⟩
     ·have h9:=hu3 g hg;rw[e,H2.out.1.st.2]at h9;cases h9
     ·have h9:=hu3 g hg;rw[H5.out.2.2.2.2.1 g e]at h9;cases h9
    ·have hkl:=(zAA.1 hx).1;rw[zAX,List.length_singleton]at hkl;obtain rfl:k=c.b.cls.length:=by omega
     rw[zAF (zBJ _),zBG]at hx;obtain rfl:=zAH hx;refine⟨_,by rw[zAF (by omega),hul,hcn,zBG];rfl,?_⟩;have hz9:z*c.root=zr:=by rw[Hu.out.2.2.2.2.2.1];exact Hu.out.2.2.2.2.2.2
     rw[hz9];have hrow:(w5.setCell ⟨Bb,1,none⟩ (.slice A5 (m0+1) c5)).heap[w2.heap.size]? =some (.cells #[.int .i64 zr] 3 (0,0)):=(Below.heap_setCell w5 ⟨Bb,1,none⟩ _ _ (fun e=>by
      have e:w2.heap.size=Bb:=e;have:=HBbs.out.1;omega)).trans ((H5.out.2.1.block _ (by have:=H4.out.2.1;omega) (fun e=>by
      have h9:=H5.out.2.2.2.2.1 _ e.symm;have:=(H2.out.1.lt _ _ h9).2;omega)).trans H4.out.2.2.2.1)
     have:=aOr (cs:= [.int .i64 zr]) hrow rfl (by simp);exact this)
   obtain⟨A6,c6,e6,hsl⟩:=hrd;rw[hlen]at e6 hsl;injection e6 with e7 _ e8
   subst e7 e8;have HF:=kH (show Below W.heap.size W (w5.setCell ⟨Bb,1,none⟩ (.slice A5 (m0+1) c5))/\WiAt (w5.setCell ⟨Bb,1,none⟩ (.slice A5 (m0+1) c5)) tg Cb Bb Wb n c z words A5 c5 from by
    refine⟨?_,hct,?_,?_,by rw[hcn];exact hsl,by rw[aAf];have:=H5.out.2.1.size;have:=HBbs.out.1;have:=H4.out.2.1;omega⟩
    ·have hb5:Below W.heap.size W w5:=(H2.out.2.2.1.trans (H4.out.1.mono H2.out.2.2.1.size)).grown H5.out.2.1 (zBK H2.out.2.2.1.size H4.out.1.size) (fun g hg=>zBK Hb1.out.size (H2.out.1.lt g _ (H5.out.2.2.2.2.1 g hg)).1);exact hb5.setCell (p:=⟨Bb,1,none⟩) (zBK Hb1.out.size (H2.out.1.lt Bb _ H2.out.1.st.2).1) _
    ·rw[cell_of_row _ _ _ _ _ (0,0) hrow6];rfl
    ·rw[cell_of_row _ _ _ _ _ (0,0) hrow6,hcn];rfl)
   have HU:=kH Hu.out.2.2.2.2.1;clear hcn hk6 hct hrow6 hown6 hul hlen hsl;go_wp2;refine bodyPost_ret (results_tmp2 rfl _ _ _) rfl ?_;exact⟨HF.out.1, .inr (.inr ⟨Hce.out,c,Cb,Bb,Wb,tg,words,A5,c5,HU.out,H2.out.1.bo,rfl,HF.out.2⟩)⟩
 ·have hq:(ce == 0)=false:=by simpa using h0
  have hq2:(ce != 0)=true:=by simpa using h0
  have Hne:=kH h0;clear h0
  go_enter func35,ntmps35
  go_wp2_with fail
  refine HC.out.mono ?_;rintro e w1 ⟨rfl,hb1⟩;have Hb1:=kH hb1;clear hb1 HC HB;go_wp2;refine bodyPost_ret (results_tmp2 rfl _ _ _) rfl ?_;exact⟨Hb1.out, .inl ⟨by rw[Hce.out];exact Hne.out,by rw[Hce.out];rfl⟩⟩
end
end Go.Proofs.YtchdbhggbdcapaaGreat
