/- Part. -/
import Derived.Test.YtchdbhggbdcapaaGreatSuLX
import Derived.Test.YtchdbhggbdcapaaGreatSu13
set_option linter.unusedVariables false
set_option linter.unusedSimpArgs false
set_option maxRecDepth 100000
set_option maxHeartbeats 16000000
namespace Go.Proofs.YtchdbhggbdcapaaGreat
open _root_.Go.Proofs.Tryz
section
open Go.RowKit
attribute [local go_sem] Oper.semAt_some
theorem bDz{α β:Type}(xs:List α)(f:α->β):(bwp xs).map (fun p=>f p.2)=(xs.map f).reverse:=by
 unfold bwp;rw[List.map_reverse,List.map_map]
 congr 1
 have:∀(k:Nat) (l:List α),List.map ((fun p=>f p.2)∘fun p:α×Nat=>(p.2,p.1)) (l.zipIdx k)=l.map f:=by
  intro k l;induction l generalizing k with
  | nil=>rfl
  | cons a l ih=>simp[List.zipIdx_cons,ih]
 exact this 0 xs
theorem aB2{A:World}{g:Nat}{v:Value}{T:TypeId}(h:A.heap[g]? =some (.cells #[v] T (0,0))):A.cell? ⟨g,0,none⟩=some v:=by
 rw[cell_of_row A g 0 _ T (0,0) h];rfl
theorem aSl{A:World}{g:Nat}{v:Value}{T:TypeId}(h:A.heap[g]? =some (.cells #[v] T (0,0))):A.frozen? ⟨g,0,none⟩=false:=by simp[World.frozen?,h]
theorem aKr{F:Fence}{n:Nat}{P:Program}{fn:Func}{tmps:Array Value}{R:Ending->World->Prop}{r:Nat}{W:World}(hr:W.heap[r]? =some (.deferred (some [])))
 (h:∃v,(results fn tmps).run P (W.putObj r (.deferred none))= .ok v (W.putObj r (.deferred none))/\R (.returned v) (W.putObj r (.deferred none))):LeavesInM F n P fn tmps R [{target:= .collected r,args:= #[]}] .returning W:=by
 obtain⟨v,h1,h2⟩:=h;refine⟨by simp, .inl ⟨r,_,rfl,run_takeDeferred hr,?_⟩⟩;exact⟨v,h1,h2⟩
structure DcI(w:World)(Sb:Nat)(A:Option Addr)(L c:Nat)(f:Int->Int)(pre:List (Nat×Int))(Y:World):Prop where
 below:Below w.heap.size w Y
 ps:Y.heap[w.heap.size]? =some (.cells #[.pointer (some ⟨Sb,0,none⟩)] 95 (0,0))
 bx:Y.heap[w.heap.size+2]? =some (.cells #[.slice A L c] 37 (0,0))
 out:∃Ao co,Y.heap[w.heap.size+1]? =some (.cells #[.slice Ao pre.length co] 37 (0,0))/\OwnAt Y 3 1 (.slice Ao pre.length co) pre.length (siv (pre.map fun p=>f p.2))/\∀g,(Value.slice Ao pre.length co).ownBlock=some g->w.heap.size+5<=g
theorem DcI.only{w:World}{Sb:Nat}{A:Option Addr}{L c:Nat}{f:Int->Int}{pre:List (Nat×Int)}{Y Y':World}(h:DcI w Sb A L c f pre Y)(hs:w.heap.size+3<=Y.heap.size)(ho:Only (w.heap.size+4) Y Y'):DcI w Sb A L c f pre Y':=by
 obtain⟨Ao,co,o1,o2,o3⟩:=h.out;exact⟨h.below.trans (ho.below (by omega)),(ho.block _ (by omega)).trans h.ps,(ho.block _ (by omega)).trans h.bx,Ao,co,(ho.block _ (by omega)).trans o1,o2.same fun g hg=>ho.block g (by have:=o3 g hg;omega),o3⟩
theorem DcI.push{w:World}{Sb:Nat}{A:Option Addr}{L c:Nat}{f:Int->Int}{pre:List (Nat×Int)}{Y Y':World}{i:Nat}{x:Int}{Ao A':Option Addr}{co c':Nat}{E:TypeId}{y:Int}(h:DcI w Sb A L c f pre Y)(hy:f x=y)(hs:w.heap.size+5<=Y.heap.size)
 (o1:Y.heap[w.heap.size+1]? =some (.cells #[.slice Ao pre.length co] 37 (0,0))) (o3:∀g,(Value.slice Ao pre.length co).ownBlock=some g->w.heap.size+5<=g)
 (ho:OwnAt Y' 3 1 (.slice A' (pre.length+1) c') (pre.length+1) (siv (pre.map fun p=>f p.2)++ [.int .i64 y])) (hg:((Y.drew).alloc (.cells #[.int .i64 y] E)).grownBy Y' (Value.slice Ao pre.length co).ownBlock) (hat:(Value.slice A' (pre.length+1) c').ownBlock=(Value.slice Ao pre.length co).ownBlock\/(Value.slice A' (pre.length+1) c').ownBlock=some (Y.heap.size+1)):
 DcI w Sb A L c f (pre ++ [(i,x)]) (Y'.setCell ⟨w.heap.size+1,0,none⟩ (.slice A' (pre.length+1) c'))/\Two (w.heap.size+3) Y (Y'.setCell ⟨w.heap.size+1,0,none⟩ (.slice A' (pre.length+1) c')):=by
 subst hy;have hsz:((Y.drew).alloc (.cells #[.int .i64 (f x)] E)).heap.size=Y.heap.size+1:=by simp
 have hk:∀g,g<Y.heap.size->g<w.heap.size+5->Y'.heap[g]? =Y.heap[g]? :=fun g hg' hg5=>(hg.block g (by omega) fun e=>by have:=o3 g e.symm;omega).trans ((((Below.refl Y.heap.size Y).drew).alloc (by simp) _).block g hg')
 have hk2:∀g,g<Y.heap.size->g<w.heap.size+5->g≠w.heap.size+1->(Y'.setCell ⟨w.heap.size+1,0,none⟩ (.slice A' (pre.length+1) c')).heap[g]? =Y.heap[g]? :=fun g hg' hg5 hne=>(Below.heap_setCell Y' ⟨w.heap.size+1,0,none⟩ _ g hne).trans (hk g hg' hg5)
 have hb:Below w.heap.size Y Y':=((((Below.refl _ Y).drew).alloc (by simp;omega) _).grown hg (by simp;omega) (fun g hg'=>by have:=o3 g hg';omega));have hsz':=hg.size;refine⟨⟨(h.below.trans hb).setCell (p:=⟨w.heap.size+1,0,none⟩) (by simp) _,(hk2 _ (by omega) (by omega) (by omega)).trans h.ps,(hk2 _ (by omega) (by omega) (by omega)).trans h.bx,A',c',?_,?_,?_⟩,⟨by rw[aAf];omega,hk2 _ (by omega) (by omega) (by omega),hk2 _ (by omega) (by omega) (by omega)⟩⟩
 ·rw[zAX,heap_setCell_same Y' (w.heap.size+1) 0 _ _ _ ((hk _ (by omega) (by omega)).trans o1)];rfl
 ·have e1:siv ((pre ++ [(i,x)]).map fun p=>f p.2)=siv (pre.map fun p=>f p.2)++ [.int .i64 (f x)]:=by rw[zBS,aEl];rfl
  rw[zAX,e1];refine ho.setCell (p:=⟨w.heap.size+1,0,none⟩) (fun e=>?_) _;rcases hat with q | q
  ·have:=o3 _ (by rw[<-q];exact e);simp at this
  ·rw[q]at e;injection e with e
   have e':Y.heap.size+1=w.heap.size+1:=e;omega
 ·intro g hg';rw[zAX]at hg';rcases hat with q | q
  ·exact o3 g (by rw[<-q];exact hg')
  ·have e:=q.symm.trans hg';injection e with e
   omega
section
variable {w : World} {B0 Sb n : Nat} {tg : TgF} {v : Sv} {s : S.Sol}
def bD0(w:World)(s:S.Sol)(e:Ending)(w':World):Prop:=
 ∃A c,e= .returned (.tuple #[.slice A s.lim.length c, .int .i64 ((s.lim.length:Int)-1)])/\Below w.heap.size w w'/\OwnAt w' 3 1 (.slice A s.lim.length c) s.lim.length (siv s.decs)/\∀g,(Value.slice A s.lim.length c).ownBlock=some g->w.heap.size<=g
theorem bBt(h:SAt w B0 Sb tg n v s)(hn:n<=4000)(ht:S.Trl n s.val s.lvl s.trl s.lim):
 Calls prog 137 #[.pointer (some ⟨Sb,0,none⟩)] w (bD0 w s):=by
 have hts:=ht.size;have hls:=ht.limsz;obtain⟨Al,cl,hli⟩:=h.li.1.form;obtain⟨L,hL⟩:∃L,s.lim.length=L:=⟨_,rfl⟩;obtain⟨TL,hTL⟩:∃TL,s.trl.length=TL:=⟨_,rfl⟩;obtain⟨At,ct,htr⟩:=h.tr.1.form;have hslt:=(h.lt _ _ h.st.2).2;obtain⟨X,hX⟩:∃X,X=((w.alloc (.cells #[.pointer (some ⟨Sb,0,none⟩)] 95)).alloc (.cells #[.slice none 0 0] 37)):=⟨_,rfl⟩;have hbX:Below w.heap.size w X:=by rw[hX];exact(al0).alloc (by simp) _
 have hXs:X.heap.size=w.heap.size+2:=by rw[hX];simp
 have hX0:X.heap[w.heap.size]? =some (.cells #[.pointer (some ⟨Sb,0,none⟩)] 95 (0,0)):=by rw[hX];exact aA1 (heap_alloc_new w _) _
 have hX1:X.heap[w.heap.size+1]? =some (.cells #[.slice none 0 0] 37 (0,0)):=by rw[hX];exact aC2 w _ _
 have HS:=kH h;have HT:=kH ht;have Hli:=kH hli;have Htr:=kH htr;have HL:=kH hL;have HTL:=kH hTL;have HbX:=kH hbX;have HX0:=kH hX0;have HX1:=kH hX1;have HSX:=kH (h.below hbX);have c7:X.cell? ⟨Sb,7,none⟩=some (.slice Al L cl):=by rw[HSX.out.c7,hli,hL]
 have c0:=aB2 hX0;rw[hTL]at hts hls;rw[hL]at hls;clear h ht hli htr hL hTL hbX hX0 hX1;refine(callsIn_wide (n:=0)).1 (callsIn_of_wp_marks func137 rfl trivial ((wpIn_wide (n:=0)).2 ?_));simp only[ntmps137,List.size_toArray,List.length_cons,List.length_nil,Nat.reduceAdd,Nat.reduceSub,Array.replicate_succ,Array.replicate_zero,List.push_toArray,List.append_toArray,List.nil_append,List.cons_append]
 go_upto_region 2 with(fail)
 rw[<-hX];clear hX
 go_wp2_with (go_at_call 185;(with_reducible refine(aQl _ _ _ _).mono ?_);rintro e X1 ⟨rfl,hX1⟩;have HXX:=kH hX1;clear hX1)
 clear c7 c0;have hx1s:X1.heap.size=w.heap.size+3:=by rw[HXX.out];simp[hXs]
 have hbX1:Below X.heap.size X X1:=by rw[HXX.out];exact al0
 have HbX1:=kH (HbX.out.trans (hbX1.mono (by omega)));have HI1:=kH (show∀W1,Below X1.heap.size X1 W1->DcI w Sb Al L cl (fun x=> -(s.trl.getD x.toNat 0)) [] W1 from fun W1 hb1=>⟨HbX1.out.trans (hb1.mono (by omega)),(hb1.block _ (by omega)).trans ((hbX1.block _ (by omega)).trans HX0.out),(hb1.block _ (by omega)).trans (by rw[HXX.out,<-hXs];exact heap_alloc_new X _),none,0,(hb1.block _ (by omega)).trans ((hbX1.block _ (by omega)).trans HX1.out),OwnAt.nil_ _ _ _,fun g hg=>by cases hg⟩);clear hbX1;refine aOp (gf:=204) (lb:= #[.pointer (some ⟨w.heap.size+2,0,none⟩)]) rfl (enters_of func204 (by kernel_rfl) rfl)
  (Arg:=BwArg) (SL:=BwSL (w.heap.size+2) Al L cl (s.lim.map Int.ofNat)) (xs:=bwp (s.lim.map Int.ofNat)) (fun Wc _ _=>aW0 _ _ _ _ _ (by rw[zAY];exact HL.out) (by omega) Wc) ?hps
  (fun pre Y=>DcI w Sb Al L cl (fun x=> -(s.trl.getD x.toNat 0)) pre Y/\w.heap.size+5<=Y.heap.size)
  ?hI ?hSL ?h0
  (fun args=>{tmps:= #[.pointer (some ⟨Sb,0,none⟩), .pointer (some ⟨w.heap.size,0,none⟩), .slice none 0 0, .int .i64 0, .pointer (some ⟨w.heap.size+1,0,none⟩),undef,args.getD 1 undef, .pointer (some ⟨Sb,0,none⟩), .pointer (some ⟨Sb,0,none⟩), .pointer (some ⟨Sb,7,none⟩), .slice Al L cl, .func (.func 204) #[] #[.pointer (some ⟨w.heap.size+2,0,none⟩)],args.getD 0 undef,args.getD 1 undef,undef,undef,undef,undef,undef,undef,undef,undef,undef,undef,undef,undef,undef,undef,undef,undef,undef,undef],defers:= []})
  ?assign ?body ?done
 case hps=>rintro x args rfl;rfl
 case hI=>
  rintro pre A A' ⟨h1,h2⟩ ho;rw[hx1s]at ho;exact⟨h1.only (by omega) ho,by rw[ho.size];exact h2⟩
 case hSL=>
  rintro pre A ⟨h1,h2⟩;refine⟨aB2 h1.bx,fun i x hx=>?_⟩;have hsa:=HS.out.below h1.below;rw[zAW]at hx;cases hl:s.lim[i]? with
  | none=>rw[hl]at hx;cases hx
  | some l=>
   rw[hl]at hx;obtain rfl:=zAH hx;obtain⟨g,o,c',q1,q2,_⟩:=aAg hsa.li.1 (j:=i) (u:= .int .i64 (l:Int)) (by unfold snv;rw[zAW,hl];rfl);rw[Hli.out]at q1;injection q1 with q3 _ _
   exact⟨g,o,q3,q2⟩
 case h0=>exact fun W1 hb1 hs1=>⟨HI1.out W1 hb1,by omega⟩
 case assign=>
  rintro l x args A KK rfl hK;have HK:=kH hK;clear hK
  gi_wp2
  exact HK.out
 case body=>
  rintro l pre ⟨i,x⟩ args A ⟨h1,h2⟩ rfl h6 h7;have hbA:=h1.below;have hsa:=HS.out.below hbA;have hpl:pre.length<=4000:=by have:=h7.length_le;rw[aLf,zAY,zAX]at this;have:=HL.out;simp at *;omega
  obtain⟨Ao,co,o1,o2,o3⟩:=h1.out;obtain⟨at_,hat,rfl⟩:∃a∈s.lim,x=Int.ofNat a:=by
   have hin:=h7.subset (zAP _ (zBD.2 rfl));unfold bwp at hin;rw[List.mem_reverse,zBU]at hin;obtain⟨⟨y,k⟩,hy,e⟩:=hin;injection e with _ e
   subst e;obtain⟨a,ha,e⟩:=zBU.1 (zAC (List.mem_zipIdx_iff_getElem?.1 hy));exact⟨a,ha,e.symm⟩
  have hal:=HT.out.limlt at_ hat;obtain⟨t,ht⟩:∃t,s.trl[at_]? =some t:=⟨_,zAB hal⟩;have htd:s.trl.getD at_ 0=t:=by rw[List.getD,ht];rfl
  obtain⟨t1,t2,t3⟩:=S.aB1.1 (HT.out.lits t (zAC ht));obtain⟨gt,ot,ct',q1,q2,_⟩:=aAg hsa.tr.1 (j:=at_) (u:= .int .i64 t) (by unfold siv;rw[zAW,ht];rfl);rw[Htr.out]at q1;injection q1 with q3 _ q4
  subst q3 q4;have c6:A.cell? ⟨Sb,6,none⟩=some (.slice (some ⟨gt,ot,none⟩) TL ct):=by rw[hsa.c6,Htr.out,HTL.out]
  rw[HTL.out]at hal;have HatI:((at_:Nat):Int) <(TL:Int):=by omega
  have cps:=aB2 h1.ps;have cot:=aB2 o1;have fot:=aSl o1;have Hh1:=kH h1;have Ho1:=kH o1;have Ho2:=kH o2;have Ho3:=kH o3;have Hsa:=kH hsa;have Htd:=kH htd;have Hh2:=kH h2;have HS0:=kH (show A.drew.cell? ⟨w.heap.size+1,0,none⟩=some (.slice Ao pre.length co)/\A.drew.cell? ⟨w.heap.size,0,none⟩=some (.pointer (some ⟨Sb,0,none⟩))/\A.drew.cell? ⟨Sb,6,none⟩=some (.slice (some ⟨gt,ot,none⟩) TL ct)/\A.drew.cell? ⟨gt,ot+at_,none⟩=some (.int .i64 t)from⟨cot,cps,c6,q2⟩);have hSb:Sb<w.heap.size:=(HS.out.lt _ _ HS.out.st.2).2;have hgt:gt<w.heap.size:=(HS.out.lt gt _ (HS.out.tr.2 gt (by rw[Htr.out];rfl))).2;have HSw:=kH (show∀w':World,(∀g,g<w.heap.size+5->w'.heap[g]? =A.heap[g]?)->w'.cell? ⟨w.heap.size+1,0,none⟩=some (.slice Ao pre.length co)/\w'.cell? ⟨w.heap.size,0,none⟩=some (.pointer (some ⟨Sb,0,none⟩))/\w'.cell? ⟨Sb,6,none⟩=some (.slice (some ⟨gt,ot,none⟩) TL ct)/\w'.cell? ⟨gt,ot+at_,none⟩=some (.int .i64 t)from fun w' hb=>⟨(aCz (hb _ (by omega)) _).trans HS0.out.1,(aCz (hb _ (by omega)) _).trans HS0.out.2.1,(aCz (hb _ (by omega)) _).trans HS0.out.2.2.1,(aCz (hb _ (by omega)) _).trans HS0.out.2.2.2⟩);clear h1 o1 o2 o3 hsa htd h2 h6 h7 hat ht hal hbA;simp only[Int.ofNat_eq_natCast]
  gi_wp2
  refine aLl 11 (by kernel_rfl) (by kernel_rfl) (by kernel_rfl) (fun h=>by obtain⟨a,w,h⟩:=h;exact h) ?_;simp only[List.take_succ_cons,List.take_zero];refine wpAny_of_held (S:=fun Y=>Y.cell? ⟨w.heap.size+1,0,none⟩=some (.slice Ao pre.length co)/\Y.cell? ⟨w.heap.size,0,none⟩=some (.pointer (some ⟨Sb,0,none⟩))/\Y.cell? ⟨Sb,6,none⟩=some (.slice (some ⟨gt,ot,none⟩) TL ct)/\Y.cell? ⟨gt,ot+at_,none⟩=some (.int .i64 t)) _ _ _ _ ?_;have hHh:(fun Y:World=>Y.cell? ⟨w.heap.size+1,0,none⟩=some (.slice Ao pre.length co)/\Y.cell? ⟨w.heap.size,0,none⟩=some (.pointer (some ⟨Sb,0,none⟩))/\Y.cell? ⟨Sb,6,none⟩=some (.slice (some ⟨gt,ot,none⟩) TL ct)/\Y.cell? ⟨gt,ot+at_,none⟩=some (.int .i64 t)) A.drew:=HS0.out;refine tK 0 ?_;refine tK 1 ?_;refine tK 2 ?_;refine tK 3 ?_;refine tK 4 ?_;refine tK 5 ?_;refine tK 6 ?_;refine tK 7 ?_;refine tK 8 ?_;refine rd 9 (fun KK hKK=>?_);clear hHh;go_simp;rw[show IntKind.i64.wrap (-t)= -t from IntWalk.i64_in _ (by omega)];have HBa:=kH (show Below A.heap.size A ((A.alloc (.cells #[.int .i64 (-t)] 3)).drew)from(al0).drew);obtain⟨wa,hwa⟩:∃wa,wa=(A.alloc (.cells #[.int .i64 (-t)] 3)).drew:=⟨_,rfl⟩;rw[<-hwa]at HBa⊢;have Hsrc:=kH (show∀q u, [Value.int .i64 (-t)][q]? =some u->∃ad:Addr,(some (⟨A.heap.size,0,none⟩:Addr))=some ad/\wa.cell? (ad.add q)=some u from by rw[hwa];exact fun q u hq=>⟨_,rfl,cell_one_new A _ _ q u hq⟩);have Hwa:=kH hwa;clear hwa;have hh2:=Hh2.out;refine hKK.out _ _ (HSw.out _ fun g hg=>HBa.out.block g (by omega)) (fun hHh=>?_);clear hKK KK
  try simp only[Act.put,yL]
  refine rd 10 (fun KK hKK=>?_);clear hHh;refine aBp wa rfl (.tmp 14) (.tmp 23) 37 rfl 3 (.int .i64 0) 1 8 underlying37 Tryz.sinfoInt rfl (by decide) (.slice Ao pre.length co) pre.length _ rfl (Ho2.out.below HBa.out Ho2.out.lt) (some ⟨A.heap.size,0,none⟩) 1 1 [.int .i64 (-t)] rfl rfl Hsrc.out (by simp[Value.oneCell']) (by omega) (by decide) ?_;intro v6 w6 hown6 hgr6 hat6;have hws:wa.heap.size=A.heap.size+1:=by rw[Hwa.out];simp
  have Hk6:=kH (show∀g,g<w.heap.size+5->w6.heap[g]? =A.heap[g]? from fun g hg=>(hgr6.block g (by omega) fun e=>by have:=Ho3.out g e.symm;omega).trans (HBa.out.block g (by omega)));refine hKK.out _ _ (HSw.out w6 Hk6.out) (fun hHh=>?_);clear hKK KK
  try simp only[Act.put,yL]
  obtain⟨A6,c6',rfl⟩:=hown6.form;refine wpAnyH_done (by kernel_rfl) ?_ _;have cot6:w6.cell? ⟨w.heap.size+1,0,none⟩=some (.slice Ao pre.length co):=(HSw.out w6 Hk6.out).1;have fot6:w6.frozen? ⟨w.heap.size+1,0,none⟩=false:=(aTu (Hk6.out _ (by omega)) _).trans fot;have Hfin:=kH (Hh1.out.push (i:=i) (x:=Int.ofNat at_) (y:= -t) (E:=3) (by show -(s.trl.getD at_ 0)= -t;rw[Htd.out]) Hh2.out Ho1.out Ho3.out hown6 (by have:=hgr6;rw[Hwa.out]at this;exact this) (by rw[hws]at hat6;exact hat6));have Hws:=kH hws;clear hown6 hgr6 hat6 hws
  show Exit.then _ _ .normal _ _
  go_wp2;refine⟨by first | exact Hfin.out.2 |(rw[hx1s];exact Hfin.out.2),Hfin.out.1,zBK Hh2.out Hfin.out.2.size⟩
 case done=>
  rintro Y ⟨h1,h2⟩ h4 h5;obtain⟨Ao,co,o1,o2,o3⟩:=h1.out;have hlen:(bwp (s.lim.map Int.ofNat)).length=L:=by rw[aLf,zAY,HL.out]
  have hmap:(bwp (s.lim.map Int.ofNat)).map (fun p=> -(s.trl.getD p.2.toNat 0))=s.decs:=by
   rw[bDz (s.lim.map Int.ofNat) (fun x=> -(s.trl.getD x.toNat 0)),List.map_map];rfl
  rw[hlen]at o1 o2 o3;rw[hmap]at o2;have hsa:=HS.out.below h1.below;have c7:Y.cell? ⟨Sb,7,none⟩=some (.slice Al L cl):=by rw[hsa.c7,Hli.out,HL.out]
  have cps:=aB2 h1.ps;have cot:=aB2 o1;have Hh1:=kH h1.below;have Ho2:=kH o2;have Ho3:=kH o3;have Hd4:=kH h4;have Hh5:=kH h5;clear h1 h2 h4 h5 o1 o2 o3 hsa hlen hmap;go_wp2
  go_quiet (fail)
  obtain⟨Z,hZ⟩:∃Z,Z=Y.drewN nq:=⟨_,rfl⟩;have HZ:Dr Y Z:=⟨nq,hZ⟩;rw[<-hZ];clear hZ;go_wp2;refine aKr (r:=X1.heap.size) (by obtain⟨k,rfl⟩:=HZ;exact Hd4.out) ⟨.tuple #[.slice Ao L co, .int .i64 ((L:Int)-1)],by simp[results,Tryz.f137,go_sem],?_⟩;have hb:=Hh1.out.dr HZ;have ho:Only X1.heap.size Z (Z.putObj X1.heap.size (.deferred none)):=Only.put _ _ _;have hoz:=Ho2.out.below (HZ.below Y.heap.size) Ho2.out.lt;rw[<-HL.out]at hoz⊢;exact⟨Ao,co,by rw[HL.out],hb.trans (ho.below (by omega)),hoz.same fun g hg=>ho.block g (by have:=Ho3.out g (by rw[<-HL.out];exact hg);omega),fun g hg=>by have:=Ho3.out g (by rw[<-HL.out];exact hg);omega⟩
end
def aW3(w:World)(B0 Sb n:Nat)(s:S.Sol)(e:Ending)(w':World):Prop:=
 (e= .returned (.bool false)/\(∀u,1<=u->u<=n->s.val.getD u 0≠0)/\Dr w w')\/
 ∃(b:Nat) (tg':TgF) (v':Sv),e= .returned (.bool true)/\1<=b/\b<=n/\s.val.getD b 0=0/\SAt w' B0 Sb tg' n v' (S.Sol.tell {s with lim:=s.lim ++ [s.trl.length]} ((b:Int)*s.phs.getD b 0) (-1))/\Below B0 w w'
section
variable {w : World} {B0 Sb n : Nat} {tg : TgF} {v : Sv} {s : S.Sol}
theorem SAt.pushLim(h:SAt w B0 Sb tg n v s){E:TypeId}{l:Nat}{v':Value}{w1:World}(ho:OwnAt w1 3 1 v' (s.lim.length+1) (snv s.lim ++ [.int .i64 (l:Int)]))(hg:(w.alloc (.cells #[.int .i64 (l:Int)] E)).grownBy w1 v.li.ownBlock)(hat:v'.ownBlock=v.li.ownBlock\/v'.ownBlock=some (w.heap.size+1)):
 w1.cell? ⟨Sb,7,none⟩=some v.li/\w1.frozen? ⟨Sb,7,none⟩=false/\∃tg',SAt (w1.setCell ⟨Sb,7,none⟩ v') B0 Sb tg' n {v with li:=v'} {s with lim:=s.lim ++ [l]}/\Below B0 w (w1.setCell ⟨Sb,7,none⟩ v'):=by
 have hW:Below w.heap.size w (w.alloc (.cells #[.int .i64 (l:Int)] E)):=al0;have hsz:(w.alloc (.cells #[.int .i64 (l:Int)] E)).heap.size=w.heap.size+1:=by simp
 have hk1:=aFu (B0:=B0) (u':=v') hW h.li.2 h.lt hg;have hsw:w.heap.size<=w1.heap.size:=by have:=hg.size;omega
 have hnew:v'.ownBlock=v.li.ownBlock\/∃g,v'.ownBlock=some g/\tg g=none:=hat.imp_right fun e=>⟨_,e,h.none_ (by omega)⟩
 obtain⟨tg',x1,x2,x3⟩:=aGj (t:=Tg.lim) h.li.2 hnew;have hst1:CRow w1 tg .st 104 Sb (stv n v s.nxt):=h.st.keep (TExt.refl tg) fun b hb=>hk1 b _ hb (by simp)
 have hSb:tg' Sb=some .st:=x1 _ _ h.st.2;have hk2:∀b t,tg b=some t->¬(t= .lim\/t= .st)->(w1.setCell ⟨Sb,7,none⟩ v').heap[b]? =w.heap[b]? :=fun b t hb hne=>
  (Below.heap_setCell w1 ⟨Sb,7,none⟩ v' b fun e=>hne (.inr (by subst e;rw[h.st.2]at hb;exact(zAH hb).symm))).trans (hk1 b t hb fun e=>hne (.inl e))
 have k:=h.keep x1 (fun t=>t= .lim\/t= .st) hk2;have hvlt:∀g,v'.ownBlock=some g->g<w1.heap.size:=ho.lt;have hvS:v'.ownBlock≠some Sb:=fun e=>by have:=x2 _ e;rw[hSb]at this;cases this
 refine⟨hst1.cell rfl,hst1.frz 7,tg',⟨?_,k.va (by simp),k.le (by simp),k.re (by simp),k.ph (by simp),k.we (by simp),h.ri,k.tr (by simp),⟨?_,x2⟩,k.wa (by simp) (by simp),k.cl (by simp) (by simp),k.lr (by simp) (by simp),fun b t hb=>?_,h.nv,h.nl,h.nr,h.np,h.nw⟩,?_⟩
 ·exact⟨by have:=(hst1.set 7 v').1;exact this,hSb⟩
 ·show OwnAt _ _ 1 v' (s.lim ++ [l]).length (snv (s.lim ++ [l]))
  rw[aLd,zAX];exact ho.setCell (p:=⟨Sb,7,none⟩) hvS v'
 ·rw[aAf]
  by_cases e:tg' b=tg b
  ·rw[e]at hb;have:=h.lt b t hb;omega
  ·obtain⟨e1,e2,e3⟩:=x3 b e;refine⟨?_,hvlt b e1⟩;rcases hat with q | q
   ·rw[q]at e1;have:=h.li.2 b e1;rw[e2]at this;cases this
   ·rw[q]at e1;obtain rfl:=zAH e1;have:=h.lt Sb _ h.st.2;omega
 ·have hb0:=h.lt Sb _ h.st.2;have h1:Below B0 w w1:=(hW.mono (by omega)).grown hg (by omega) (fun g hg=>(h.lt g _ (h.li.2 g hg)).1);exact h1.setCell (p:=⟨Sb,7,none⟩) hb0.1 v'
theorem aT0(h:SAt w B0 Sb tg n v s)(hn:n<=4000)(hph:∀v,v<=n->s.phs.getD v 0=1\/s.phs.getD v 0= -1)(hts:s.trl.length<=4000)(hls:(∃u,1<=u/\u<=n/\s.val.getD u 0=0)->s.lim.length<4000):
 Calls prog 101 #[.pointer (some ⟨Sb,0,none⟩)] w (aW3 w B0 Sb n s):=by
 have HS:=kH h;have Hph:=kH hph;have Hls:=kH hls;clear h hph hls
 go_enter func101,ntmps101
 go_wp2
 go_loopg [3,4] (n+2) (fun g i3 i4 wr=>∃(b k:Nat),1<=k/\k<=n+1/\b<=n/\i3= .int .i64 (b:Int)/\i4= .int .i64 (k:Int)/\g+k=n+3/\Hid (Dr w wr)/\Hid (b=0->∀u,1<=u->u<k->s.val.getD u 0≠0)/\Hid (b≠0->s.val.getD b 0=0))
 case atStart=>exact⟨0,1,zBJ _,by omega,by omega,rfl,rfl,by omega,kH (Dr.refl _),kH (fun _ u h1 h2=>by omega),kH (fun h=>absurd rfl h)⟩
 case round=>
  obtain⟨b,k,hk1,hk2,hb,rfl,rfl,hgk,Hd,Hb0,Hb1⟩:=hrel;have Hgk:=kH hgk;clear hgk;have HW:=kH (HS.out.dr Hd.out);have c3:=HW.out.c3
  by_cases hkn:k<n+1
  ·have hdk:decide ((k:Int) <(n:Int)+1)=true:=by simp;omega
   have kv:=HW.out.cval (i:=k) (by omega);obtain⟨x,hx⟩:∃x,s.val.getD k 0=x:=⟨_,rfl⟩;rw[hx]at kv;have Hx:=kH hx;clear hx
   by_cases hx0:x=0
   ·subst hx0;have c9:=HW.out.c9;obtain⟨y,hy⟩:=HW.out.cwgt (k:=k) (by omega);obtain⟨z,hz⟩:=HW.out.cwgt (k:=b) hb;have hbI:(b:Int) <(n:Int)+1:=by omega
    by_cases hb0:b=0
    ·have hbt:((b:Int)== 0)=true:=by simpa using hb0
     have HB:=kH hb0;clear hb0;go_wp2
     go_quiet (fail)
     have Hdz:=kH (Hd.out.drewN nq);obtain⟨wz,hwz⟩:∃wz,wz=wr.drewN nq:=⟨_,rfl⟩;rw[<-hwz]at Hdz⊢;clear hwz hdk;go_wp2
     go_roundg (gk-1)
     case measure=>have:=Hgk.out;omega
     case rel=>
      have:=Hgk.out;exact⟨k,k+1,by omega,by omega,by omega,rfl,by go_num,by omega,Hdz,kH (fun h=>by omega),kH (fun _=>Hx.out)⟩
    ·have hbt:((b:Int)== 0)=false:=by simpa using hb0
     have HB:=kH hb0;clear hb0;cases hc:(FloatKind.f64.format.order y z == some .gt)
     ·go_wp2
      go_quiet (fail)
      have Hdz:=kH (Hd.out.drewN nq);obtain⟨wz,hwz⟩:∃wz,wz=wr.drewN nq:=⟨_,rfl⟩;rw[<-hwz]at Hdz⊢;clear hwz hdk;go_wp2
      go_roundg (gk-1)
      case measure=>have:=Hgk.out;omega
      case rel=>
       have:=Hgk.out;refine⟨b,k+1,by omega,by omega,hb,rfl,by go_num,by omega,Hdz,kH (fun h u h1 h2=>?_),Hb1⟩;exact absurd h HB.out
     ·go_wp2
      go_quiet (fail)
      have Hdz:=kH (Hd.out.drewN nq);obtain⟨wz,hwz⟩:∃wz,wz=wr.drewN nq:=⟨_,rfl⟩;rw[<-hwz]at Hdz⊢;clear hwz hdk;go_wp2
      go_roundg (gk-1)
      case measure=>have:=Hgk.out;omega
      case rel=>
       have:=Hgk.out;exact⟨k,k+1,by omega,by omega,by omega,rfl,by go_num,by omega,Hdz,kH (fun h=>by omega),kH (fun _=>Hx.out)⟩
   ·have hxt:(x == 0)=false:=by simpa using hx0
    have HX0:=kH hx0;clear hx0;go_wp2
    go_quiet (fail)
    have Hdz:=kH (Hd.out.drewN nq);obtain⟨wz,hwz⟩:∃wz,wz=wr.drewN nq:=⟨_,rfl⟩;rw[<-hwz]at Hdz⊢;clear hwz hdk;go_wp2
    go_roundg (gk-1)
    case measure=>have:=Hgk.out;omega
    case rel=>
     have:=Hgk.out;refine⟨b,k+1,by omega,by omega,hb,rfl,by go_num,by omega,Hdz,kH (fun h u h1 h2=>?_),Hb1⟩
     by_cases e:u=k
     ·subst e;rw[Hx.out];exact HX0.out
     ·exact Hb0.out h u h1 (by omega)
  ·obtain rfl:k=n+1:=by omega
   have hdk:decide (((n+1:Nat):Int) <(n:Int)+1)=false:=by simp
   by_cases hb0:b=0
   ·have hbt:((b:Int)== 0)=true:=by simpa using hb0
    have HB:=kH hb0;clear hb0;go_wp2;go_ret;exact .inl ⟨rfl,fun u h1 h2=>Hb0.out HB.out u h1 (by omega),Hd.out⟩
   ·have hbt:((b:Int)== 0)=false:=by simpa using hb0
    have HB:=kH hb0;clear hb0;have hls:=Hls.out ⟨b,by have:=HB.out;omega,hb,Hb1.out HB.out⟩;obtain⟨Af,cf,hli⟩:=HW.out.li.1.form;obtain⟨At,ct,htr⟩:=HW.out.tr.1.form;have c6:wr.cell? ⟨Sb,6,none⟩=some (.slice At s.trl.length ct):=by rw[HW.out.c6,htr]
    have c7:wr.cell? ⟨Sb,7,none⟩=some (.slice Af s.lim.length cf):=by rw[HW.out.c7,hli]
    have Hown:=kH (show OwnAt wr 3 1 (.slice Af s.lim.length cf) s.lim.length (snv s.lim)from by have:=HW.out.li.1;rw[hli]at this;exact this);have Hli:=kH hli;clear hli htr
    go_upto_region 9 with(fail)
    obtain⟨TL,hTL⟩:∃TL,s.trl.length=TL:=⟨_,rfl⟩;rw[hTL]at c6 hts;have HTL:=kH hTL;clear hTL;have HA:=kH (show Below wr.heap.size wr ((wr.alloc (.cells #[.int .i64 (TL:Int)] 3)).drew)from(al0).drew);have c7':((wr.alloc (.cells #[.int .i64 (TL:Int)] 3)).drew).cell? ⟨Sb,7,none⟩=some (.slice Af s.lim.length cf):=(HA.out.cell (p:=⟨Sb,7,none⟩) (HW.out.lt _ _ HW.out.st.2).2).trans c7;have Hsrc:=kH (show∀(j:Nat) (u:Value), [Value.int .i64 (TL:Int)][j]? =some u->∃ad:Addr,(some (⟨wr.heap.size,0,none⟩:Addr))=some ad/\((wr.alloc (.cells #[.int .i64 (TL:Int)] 3)).drew).cell? (ad.add j)=some u from fun j u hu=>⟨_,rfl,cell_one_new wr _ _ j u hu⟩)
    go_region_law (first
     | (refine aBp _ rfl (.tmp 50) (.tmp 56) 37 rfl 3 (.int .i64 0) 1 8 underlying37 Tryz.sinfoInt rfl (by decide) (.slice Af s.lim.length cf) s.lim.length _ rfl (Hown.out.same (fun g hg => HA.out.block g (Hown.out.lt g hg))) (some ⟨wr.heap.size, 0, none⟩) 1 1 [.int .i64 (TL : Int)] rfl rfl Hsrc.out (by simp [Value.oneCell']) (by omega) (by decide) ?_
        intro v' w7 hown7 hgr7 hat7;obtain⟨A7,c7a,hv7⟩:=hown7.form;subst hv7;obtain⟨q1,q2,tg',q3,q4⟩:=HW.out.pushLim (v':= .slice A7 (s.lim.length+1) c7a) (w1:=w7) (E:=3) (l:=TL) hown7 (by rw[show v.li=_ from Hli.out];exact⟨hgr7.1,hgr7.2,hgr7.3,hgr7.size,fun k hk hne=>hgr7.block k hk hne⟩) (by rw[show v.li=_ from Hli.out];simpa using hat7);have Hq:=kH q3;have Hqb:=kH q4;clear q3 q4 hown7 hgr7 hat7))
    all_goals
     obtain⟨Z,hZ⟩:∃Z,Z=w7.setCell ⟨Sb,7,none⟩ (.slice A7 (s.lim.length+1) c7a):=⟨_,rfl⟩;rw[<-hZ]at Hq Hqb⊢;clear hZ q1 q2 c7 c7' c6 HA Hsrc c3 hdk;have c11:=Hq.out.c11;have kp:=Hq.out.cphs (i:=b) hb;have hp:=Hph.out b hb;obtain⟨p,hp2⟩:∃p,s.phs.getD b 0=p:=⟨_,rfl⟩;rw[hp2]at hp;rw[show({s with lim:=s.lim ++ [TL]}:S.Sol).phs.getD b 0=p from hp2]at kp;have Hp2:=kH hp2;clear hp2;have hbI:(b:Int) <(n:Int)+1:=by omega
     have hb1:1<=b:=by have:=HB.out;omega
     rcases hp with rfl | rfl
     ·have Ht:=kH (aFg Hq.out hn (l:=(b:Int)) (by simp only[S.isLit,zBQ];omega) (by show s.trl.length<=4000;rw[HTL.out];exact hts) (by show(s.lim ++ [TL]).length<=4000;rw[zAX,List.length_singleton];omega) (-1))
      go_wp2_with fail
      refine Ht.out.mono ?_;rintro e w8 ⟨rfl,tg8,v8,h1,_,h3⟩;have H8:=kH h1;have H9:=kH (((Hd.out.below B0).trans Hqb.out).trans h3);clear h1 h3;go_wp2;go_ret;exact .inr ⟨b,tg8,v8,rfl,hb1,hb,Hb1.out HB.out,by rw[Hp2.out,HTL.out,Int.mul_one];exact H8.out,H9.out⟩
     ·have Ht:=kH (aFg Hq.out hn (l:= -(b:Int)) (by simp only[S.isLit,zBQ];omega) (by show s.trl.length<=4000;rw[HTL.out];exact hts) (by show(s.lim ++ [TL]).length<=4000;rw[zAX,List.length_singleton];omega) (-1))
      go_wp2_with fail
      refine Ht.out.mono ?_;rintro e w8 ⟨rfl,tg8,v8,h1,_,h3⟩;have H8:=kH h1;have H9:=kH (((Hd.out.below B0).trans Hqb.out).trans h3);clear h1 h3;go_wp2;go_ret;exact .inr ⟨b,tg8,v8,rfl,hb1,hb,Hb1.out HB.out,by rw[Hp2.out,HTL.out,Int.mul_neg,Int.mul_one];exact H8.out,H9.out⟩
end
def aY9(w:World)(B0 Sb n:Nat)(tg:TgF)(v:Sv)(s':S.Sol)(e:Ending)(w':World):Prop:=
 e= .returned (.tuple #[])/\∃tg',SAt w' B0 Sb tg' n v s'/\(Un tg w tg' w'/\∀b,b<w.heap.size->b≠v.wa->w'.heap[b]? =w.heap[b]?)/\Below B0 w w'
section
variable {w : World} {B0 Sb n : Nat} {tg : TgF} {v : Sv} {s : S.Sol}
theorem aFx(h:SAt w B0 Sb tg n v s)(hn:n<=4000){k:Nat}{c:List Int}(hk:s.cls[k]? =some c){i:Nat}{x:Int}(hi:c[i]? =some x)(hx:S.isLit n x=true)(hkm:k<=1000000)(him:i<=1000000)(hwl:(s.wat.getD (S.pl x) []).length<=1000000){I:Int}(hI:I=(i:Int)):
 Calls prog 98 #[.pointer (some ⟨Sb,0,none⟩), .int .i64 (k:Int), .int .i64 I] w (aY9 w B0 Sb n tg v {s with wat:=s.wat.set (S.pl x) (s.wat.getD (S.pl x) []++ [k])}):=by
 subst hI;obtain⟨x1,x2,x3⟩:=S.aB1.1 hx;have hcl:0<c.length:=by have:=(zAA.1 hi).1;omega
 have hil:i<c.length:=(zAA.1 hi).1;have hkl:k<s.cls.length:=(zAA.1 hk).1;obtain⟨gc,oc,cc,gu,ou,cu,e1,e2,e3,_,_,e6,e7⟩:=h.clause hk hcl;have e3i:=e3 i x hi;have hp:=S.pl_lt hx;have hpl:S.pl x<s.wat.length:=by rw[h.nw];exact hp
 have hwp:s.wat[S.pl x]? =some (s.wat.getD (S.pl x) []):=by rw[List.getD,zAB hpl];rfl
 have hlen:=hwl;obtain⟨A,ca,d1,d2,d3⟩:=h.watch hwp;have Hcon:=kH (aNo x (by omega) (by omega) w);have c0:=h.c0;rw[e1]at c0;have c2:=h.c2;have HS:=kH h;have Hd2:=kH (bBk d2);have hcap:=aOo d2;have Hle:=kH d2.le;have hpI:((S.pl x:Nat):Int) < 2* (n:Int)+2:=by omega
 obtain⟨P,hP⟩:∃P,S.pl x=P:=⟨_,rfl⟩;obtain⟨l,hl⟩:∃l,s.wat.getD (S.pl x) []=l:=⟨_,rfl⟩;rw[hl]at hlen d1 Hd2 Hle hcap⊢;rw[hP]at hp hpI d1 Hcon⊢;obtain⟨L,hL⟩:∃L,l.length=L:=⟨_,rfl⟩;rw[hL]at hlen d1 Hd2 Hle hcap;obtain⟨hcap1,hcap2⟩:=hcap;have HL:=kH hL;have Hd1:=kH d1;have Hlow:=kH (show∀g,(Value.slice A L L).ownBlock=some g->tg g=some .wl from fun g hg=>by
  cases A with
  | none=>cases hg
  | some a=>exact d3 g hg)
 clear h hk hi hx hwl e1 e3 hpl hwp d2 d3 hP hl hL
 go_enter func98,ntmps98
 go_wp2_with fail
 refine Hcon.out.mono ?_;rintro e w' ⟨rfl,rfl⟩
 go_upto_region 2 with(fail)
 have HW:=kH (show Below w.heap.size w ((w.alloc (.cells #[.int .i64 (k:Int)] 3)).drew)from(al0).drew);have c2':((w.alloc (.cells #[.int .i64 (k:Int)] 3)).drew).cell? ⟨Sb,2,none⟩=some (.slice (some ⟨v.wa,0,none⟩) (2*n+2) (2*n+2)):=(HS.out.below HW.out).c2;have Hsz:=kH (show((w.alloc (.cells #[.int .i64 (k:Int)] 3)).drew).heap.size=w.heap.size+1 from by simp);have Hone:=kH (show((w.alloc (.cells #[.int .i64 (k:Int)] 3)).drew).cell? ⟨w.heap.size,0,none⟩=some (.int .i64 (k:Int))from cell_one_new w _ _ 0 _ rfl);obtain⟨us,hus,_⟩:=HS.out.wa;have Hwa:=kH hus;have HW7:=kH (show∀w7,Below ((w.alloc (.cells #[.int .i64 (k:Int)] 3)).drew).heap.size ((w.alloc (.cells #[.int .i64 (k:Int)] 3)).drew) w7->w7.frozen? ⟨v.wa,P,none⟩=false/\w7.cell? ⟨v.wa,P,none⟩=some (.slice A L ca)from fun w7 hb7=>by
  have hb:Below w.heap.size w w7:=HW.out.trans (hb7.mono (by have:=Hsz.out;omega));exact⟨(hb.frozen (p:=⟨v.wa,P,none⟩) Hwa.out.lt).trans (Hwa.out.frz P),(hb.cell (p:=⟨v.wa,P,none⟩) Hwa.out.lt).trans Hd1.out⟩)
 clear hus
 go_region_law (first
  | (refine aMi _ rfl (.tmp 36) (.tmp 38) 37 rfl 3 (.int .i64 0) 8 underlying37 Tryz.sinfoInt rfl A L (snv l) rfl (Hd2.out.same (fun g hg => HW.out.block g (Hd2.out.lt g hg))) ⟨w.heap.size, 0, none⟩ 1 (.int .i64 (k : Int)) rfl Hone.out (by omega) (by omega) ?_
     intro v' w7 hown7 hb7 hob7;obtain⟨A7,c7,hv7⟩:=hown7.form;subst hv7;have HS7:=kH (HS.out.below (HW.out.trans (hb7.mono (by have:=Hsz.out;omega))));have kc2:=HS7.out.c2;have kf7:=(HW7.out w7 hb7).1;have kc7:=(HW7.out w7 hb7).2;have Hown7:=kH hown7;have Hob7:=kH hob7;have Hb7:=kH hb7;clear hown7 hb7 hob7))
 all_goals
  refine bodyPost_end (results_none rfl _ _ _) rfl ?_;have hg7:∀g,(Value.slice A7 (L+1) c7).ownBlock=some g->g=w.heap.size+1:=fun g hg=>by
   have:=Hob7.out;rw[hg]at this;have h2:=Hsz.out;have h3:=zAH this;omega
  have hno:tg (w.heap.size+1)=none:=HS.out.none_ (by omega);have hb1:Below w.heap.size w w7:=HW.out.trans (Hb7.out.mono (by have:=Hsz.out;omega));have hfin:=HS7.out.putWat (p:=P) (l:=l ++ [k]) (u:= .slice A7 (L+1) c7) (by
   have:=Hown7.out;rw[aLd,zAX,HL.out];exact this) (fun g hg=>by
   obtain rfl:=hg7 g hg;exact⟨by have:=(HS.out.lt _ _ HS.out.st.2);omega, .inl hno⟩) (tput tg (w.heap.size+1) .wl) (aMh hno _) (fun g hg=>by rw[hg7 g hg];exact aLc _ _ _) (fun b hb=>by
   by_cases e:b=w.heap.size+1
   ·subst e;have h2:=Hsz.out;refine⟨?_,aLc _ _ _⟩;rw[Hob7.out,h2]
   ·exact absurd (aOn e _) hb)
  refine⟨rfl,_,hfin,?_,(hb1.mono (by have:=HS.out.lt _ _ HS.out.st.2;omega)).setCell (p:=⟨v.wa,P,none⟩) (HS.out.lt _ _ Hwa.out.2).1 _⟩;refine⟨⟨by rw[aAf];exact hb1.size,fun b hb hn=>⟨(aOn (by omega) _).trans hn,?_⟩,fun b hb=>⟨aMh hno _ _ _ hb,?_⟩⟩,fun b hb hne=>(Below.heap_setCell w7 ⟨v.wa,P,none⟩ _ b hne).trans (hb1.block b hb)⟩
  ·exact(Below.heap_setCell w7 ⟨v.wa,P,none⟩ _ b fun e=>by have h5:=Hwa.out.2;subst e;rw[hn]at h5;cases h5).trans (hb1.block b hb)
  ·exact(Below.heap_setCell w7 ⟨v.wa,P,none⟩ _ b fun e=>by have h5:=Hwa.out.2;subst e;rw[hb]at h5;cases h5).trans (hb1.block b (HS.out.lt b _ hb).2)
end
section
variable {w : World} {B0 Sb n : Nat} {tg : TgF} {v : Sv} {s : S.Sol}
theorem aW4(h:SAt w B0 Sb tg n v s){R o g cap:Nat}{c:List Int}(hu:OwnAt w 3 1 (.slice (some ⟨g,o,none⟩) R cap) R (siv c))(hg0:tg g=none){us:List Value}(hc1:COwn w tg .cls 37 v.cl s.cls.length us){E:TypeId}{u:Value}{w1:World}(hg:(w.alloc (.cells #[u] E)).grownBy w1 v.cl.ownBlock)(v':Value):
 OwnAt (w1.setCell ⟨Sb,0,none⟩ v') 3 1 (.slice (some ⟨g,o,none⟩) R cap) R (siv c):=by
 have hlt:=hu.lt g rfl;refine hu.same fun g' hg'=>?_
 obtain rfl:g=g':=by simpa[Value.ownBlock]using hg'
 refine(Below.heap_setCell w1 ⟨Sb,0,none⟩ v' g fun e=>by subst e;rw[h.st.2]at hg0;cases hg0).trans ((hg.block g (by simp;omega) fun e=>by have:=hc1.2 g e.symm;rw[hg0]at this;cases this).trans (Below.heap_alloc w _ g hlt))
theorem aW5(h:SAt w B0 Sb tg n v s)(hn:n<=4000){a b:Int}{r:List Int}(hl:S.isLit n a=true)(hlb:S.isLit n b=true)(hab:S.pl a≠S.pl b)(hcm:s.cls.length<=900000)(hwl:(s.wat.getD (S.pl a) []).length<=900000/\(s.wat.getD (S.pl b) []).length<=900000)(hsz:s.trl.length<=4000)(hls:s.lim.length<=4000)(hlr:s.lrn.length<=900000){A:Option Addr}{cap:Nat}(hrm:r.length<=100000)(hu:OwnAt w 3 1 (.slice A (r.length+2) cap) (r.length+2) (siv (a :: b :: r)))(hun:∀g,(Value.slice A (r.length+2) cap).ownBlock=some g->B0<=g/\tg g=none):
 Calls prog 103 #[.pointer (some ⟨Sb,0,none⟩), .slice A (r.length+2) cap] w (aSe w B0 Sb n (s.take2 a b r)):=by
 obtain⟨g,o,c',e1,e2,e3,e4,e5⟩:=aAg hu (j:=0) (u:= .int .i64 a) rfl;injection e1 with e6 _ e7
 subst e6 e7;rw[zBI]at e2;have HW:=kH (show Below w.heap.size w w.drew from(Below.refl _ _).drew);obtain⟨R,hR⟩:∃R,r.length+2=R:=⟨_,rfl⟩;have hR1:(((R:Nat):Int)== 1)=false:=by simp;omega
 have hR0:(0:Int) <(R:Int):=by omega
 rw[hR]at hu hun⊢;have hu1:OwnAt w.drew 3 1 (.slice (some ⟨g,o,none⟩) R cap) R (siv (a :: b :: r)):=hu.below HW.out hu.lt;have Hcl:=kH (aIy (A:=some ⟨g,o,none⟩) (n:=R) (c:=cap) (us:=siv (a :: b :: r)) (W:=w.drew) (by rw[aBu,Nat.mul_one,<-hR];rfl) (fun j u hj=>by
  obtain⟨g',o',c',q1,q2,_⟩:=aAg hu1 hj;injection q1 with q3 _ _
  injection q3 with q3
  injection q3 with a1 a2 _
  subst a1 a2;exact⟨_,rfl,by rw[show(⟨g,o,none⟩:Addr).add j=⟨g,o+j,none⟩from by simp[Addr.add]];exact q2⟩) (fun u hu=>by
  obtain⟨x,_,rfl⟩:=zBU.1 hu;rfl) (fun ad _ had=>by
  obtain rfl:=zAH had;exact hu1.lt g rfl) (by omega))
 have HS:=kH (h.dr ((Dr.refl w).drew));have He2:=kH e2;have c1:=HS.out.c1;have Hb0:=kH (h.lt _ _ h.st.2);have Hun:=kH hun;have Hu:=kH hu;have hcf:∀(args:Array Value) (X:World),Sem.run prog (callFunc 91 args) X= .ok (.enter 91 args) X:=fun args X=>by simp[go_sem,callFunc,Tryz.f91]
 have Hcf:=kH hcf;have HR:=kH hR;have Hla:=kH hl;have Hlb:=kH hlb;have Hab:=kH hab;have Hwl:=kH hwl;clear h hun hu hu1 e3 hcf hR hl hlb hab hwl hrm e2
 go_enter func103,ntmps103
 go_upto_region 0 with(fail)
 go_cut [] (fun wy=>∃(tg':TgF) (v':Sv),Hid (SAt wy B0 Sb tg' n v' {s with lrn:=s.lrn ++ [a :: b :: r]})/\Hid (Below B0 w wy)/\Hid (OwnAt wy 3 1 (.slice (some ⟨g,o,none⟩) R cap) R (siv (a :: b :: r))/\tg' g=none/\B0<=g))
 case first=>
  go_wp2
  go_region_law (first
   | (refine aPp _ rfl 91 Hcf.out (.tmp 9) 37 rfl (.slice (some ⟨g, o, none⟩) R cap) rfl Hcl.out ?_
      rintro e w2 ⟨v2,rfl,k1,k2,k3⟩;obtain⟨A2,c2,rfl⟩:=k1.form;refine⟨_,rfl,?_⟩;have Hk:=kH (And.intro k1 (And.intro k2 k3));have S2:=kH (HS.out.below k2);have kc1:=S2.out.c1;have kc2:(w2.alloc (.cells #[.slice A2 R c2] 37)).cell? ⟨Sb,1,none⟩=some v.lr:=(S2.out.below (al0)).c1;obtain⟨us,l1,l2⟩:=S2.out.lr;have Hl:=kH (And.intro l1 l2);clear k1 k2 k3 l1 l2)
   | (refine aBp _ rfl (.tmp 8) (.tmp 11) 25 rfl 37 (.slice none 0 0) 1 24 underlying25 Tryz.sinfoInts rfl (by decide) v.lr s.lrn.length us rfl (Hl.out.1.1.below (al0) Hl.out.1.1.lt) (some ⟨w2.heap.size, 0, none⟩) 1 1 [.slice A2 R c2] rfl rfl (aE9 w2 [.slice A2 R c2] 37) (by simp; rfl) (by omega) (by decide) ?_
      intro v' w4 hown hgr hat;obtain⟨Av,cv,hv⟩:=hown.form;subst hv;obtain⟨q1,q2,tg',q3,q4,q5⟩:=S2.out.pushLrn (c:=a :: b :: r) (u:= .slice A2 R c2) (v':= .slice Av (s.lrn.length+1) cv) (w1:=w4) (by have e:(a :: b :: r).length=R:=HR.out;rw[e];exact Hk.out.1) (fun g' hg'=>⟨by have h1:=Hk.out.2.2 g' hg';have h2:=(HS.out.lt _ _ HS.out.st.2);omega,HS.out.none_ (Hk.out.2.2 g' hg')⟩) Hl.out.1 Hl.out.2 hown hgr (by simpa using hat);have Hq:=kH (And.intro q3 (And.intro q4 q5));clear hown hgr hat q3 q4 q5))
  all_goals
   go_wp2
   go_meet
   have hb0:=(HS.out.lt _ _ HS.out.st.2);have hb1:=Hb0.out;have hg:g<w.drew.heap.size:=zAL (Hu.out.lt g rfl) HW.out.size;refine⟨tg',_,kH Hq.out.1,kH (((HW.out.mono (by omega)).trans (Hk.out.2.1.mono (by omega))).trans Hq.out.2.1),?_⟩;have hne:(Value.slice A2 R c2).ownBlock≠some g:=fun e=>by have:=Hk.out.2.2 g e;omega
   have hq:=Hq.out.2.2 g (zAL hg Hk.out.2.1.size) (Hun.out g rfl).2 hne;exact kH ⟨(Hu.out.below HW.out Hu.out.lt).same fun g' hg'=>by
    obtain rfl:g=g':=by simpa[Value.ownBlock]using hg'
    exact hq.2.trans (Hk.out.2.1.block g hg),hq.1,(Hun.out g rfl).1⟩
 case rest=>
  obtain⟨tg',v',H1,H2,H3⟩:=hcut;obtain⟨us,k1,k2⟩:=H1.out.cl;obtain⟨Ac,cc,hcl⟩:=k1.1.form;have Hcl:=kH hcl;have Hc1:=kH k1;have Hc2:=kH k2;have hown:OwnAt wc 37 1 (.slice Ac s.cls.length cc) s.cls.length us:=by rw[<-hcl];exact k1.1
  have Hown:=kH hown;have c0:wc.cell? ⟨Sb,0,none⟩=some (.slice Ac s.cls.length cc):=by rw[H1.out.c0,hcl]
  have c0':(wc.alloc (.cells #[.slice (some ⟨g,o,none⟩) R cap] 37)).cell? ⟨Sb,0,none⟩=some (.slice Ac s.cls.length cc):=((al0).cell (p:=⟨Sb,0,none⟩) (H1.out.lt _ _ H1.out.st.2).2).trans c0;have Hun3:=kH (show∀g',(Value.slice (some ⟨g,o,none⟩) R cap).ownBlock=some g'->B0<=g'/\tg' g'=none from fun g' hg'=>by
   obtain rfl:g=g':=by simpa[Value.ownBlock]using hg'
   exact⟨H3.out.2.2,H3.out.2.1⟩)
  have Hgw:=kH (show g≠v'.wa from fun e=>by
   obtain⟨us',u1,_⟩:=H1.out.wa;have h5:=u1.2;rw[<-e,H3.out.2.1]at h5;cases h5)
  clear k1 k2 hcl hown
  go_upto_region 3 with(fail)
  go_upto_region 4 with(at_builtin;refine aAk _ rfl (.tmp 27) (.tmp 29) 25 rfl 37 (.slice none 0 0) 24 underlying25 Tryz.sinfoInts rfl _ s.cls.length us rfl Hown.out (.slice (some ⟨g,o,none⟩) R cap) rfl 37 rfl (by omega) (by omega) ?_;intro v4 w4 hown' hgr hat;obtain⟨Av,cv,hv⟩:=hown'.form;subst hv;obtain⟨q1,q2,tg4,q3,q4⟩:=H1.out.pushCls (c:=a :: b :: r) (u:= .slice (some ⟨g,o,none⟩) R cap) (v':= .slice Av (s.cls.length+1) cv) (w1:=w4) (E:=37) (by have e:(a :: b :: r).length=R:=HR.out;rw[e];exact H3.out.1) Hun3.out Hc1.out Hc2.out hown' (by rw[show v'.cl=_ from Hcl.out];exact hgr) (by rw[show v'.cl=_ from Hcl.out];exact hat);have Hq:=kH q3;have Hqb:=kH q4;have Hkg:=kH (aW4 H1.out H3.out.1 H3.out.2.1 Hc1.out (by rw[show v'.cl=_ from Hcl.out];exact hgr) (.slice Av (s.cls.length+1) cv));clear q3 q4 hown' hgr hat)
  obtain⟨Z,hZ⟩:∃Z,Z=w4.setCell ⟨Sb,0,none⟩ (.slice Av (s.cls.length+1) cv):=⟨_,rfl⟩;rw[<-hZ]at Hq Hqb Hkg⊢;clear hZ q1 q2 c0 c0' Hown Hc1 Hc2 Hcl;have c0:Z.cell? ⟨Sb,0,none⟩=some (.slice Av (s.cls.length+1) cv):=Hq.out.c0;have hk1:(s.cls ++ [a :: b :: r])[s.cls.length]? =some (a :: b :: r):=by simp
  have Hw1:=kH (aFx (i:=0) Hq.out hn hk1 rfl Hla.out (by omega) (by omega) (by have:=Hwl.out.1;show(s.wat.getD (S.pl a) []).length<=_;omega) (I:=0) rfl);clear hk1
  go_wp2_with fail
  refine Hw1.out.mono ?_;rintro e w1 ⟨rfl,tg1,h1,h2,h3⟩;have K1:=kH (show OwnAt w1 3 1 (.slice (some ⟨g,o,none⟩) R cap) R (siv (a :: b :: r))from Hkg.out.same fun g' hg'=>by
   obtain rfl:g=g':=by simpa[Value.ownBlock]using hg'
   exact h2.2 g (Hkg.out.lt g rfl) Hgw.out)
  have T1:=kH h2.1;have G1:=kH h1;have G3:=kH (Hqb.out.trans h3);clear h1 h2 h3 c0;have c0:w1.cell? ⟨Sb,0,none⟩=some (.slice Av (s.cls.length+1) cv):=G1.out.c0;have hk1:(s.cls ++ [a :: b :: r])[s.cls.length]? =some (a :: b :: r):=by simp
  have Hw2:=kH (aFx (i:=1) G1.out hn hk1 rfl Hlb.out (by omega) (by omega) (by
   show((s.wat.set (S.pl a) (s.wat.getD (S.pl a) []++ [s.cls.length])).getD (S.pl b) []).length<=_
   rw[S.getD_setL,if_neg (fun e=>Hab.out e.1)];have:=Hwl.out.2;omega) (I:=1) rfl)
  clear hk1
  go_wp2_with fail
  refine Hw2.out.mono ?_;rintro e w2 ⟨rfl,tg2,h1,h2,h3⟩;have K2:=(show OwnAt w2 3 1 (.slice (some ⟨g,o,none⟩) R cap) R (siv (a :: b :: r))from K1.out.same fun g' hg'=>by
   obtain rfl:g=g':=by simpa[Value.ownBlock]using hg'
   exact h2.2 g (K1.out.lt g rfl) Hgw.out)
  obtain⟨g2,o2,c2,q1,q2,_⟩:=aAg K2 (j:=0) (u:= .int .i64 a) rfl;injection q1 with q3 _ _
  injection q3 with q3
  injection q3 with a1 a2 _
  subst a1 a2;rw[zBI]at q2;have G5:=kH h1;have G6:=kH ((H2.out.trans G3.out).trans h3);have c0:w2.cell? ⟨Sb,0,none⟩=some (.slice Av (s.cls.length+1) cv):=G5.out.c0;clear h1 h2 h3 K2
  go_upto_region 6 with(fail)
  have G7:=kH (G5.out.dr ((Dr.refl w2).drew));have Ht:=kH (aFg G7.out hn Hla.out hsz hls (s.cls.length:Int));have hwr:IntKind.i64.wrap ((s.cls.length:Nat):Int)=((s.cls.length:Nat):Int):=IntWalk.i64_in _ (by omega)
  go_region_with ((go_at_call 97;(with_reducible refine Ht.out.mono ?_);rintro e w' ⟨rfl,tg3,v3,t1,t2,t3⟩;have HE:=kH (And.intro t1 t3);clear t1 t2 t3))
  all_goals
   go_wp2;refine bodyPost_end (results_none rfl _ _ _) rfl ?_;exact⟨rfl,tg3,v3,HE.out.1,(G6.out.dr ((Dr.refl _).drew)).trans HE.out.2⟩
end
def aKs(w:World)(B0 Sb n:Nat)(tg:TgF)(v:Sv)(cs:List (List Int))(s:S.Sol)(e:Ending)(w':World):Prop:=
 ∃(A:Option Addr) (cap:Nat) (a:Int) (rest:List Int) (bk:Nat) (ri':Value),e= .returned (.tuple #[.slice A (rest.length+1) cap, .int .i64 (bk:Int)])/\SAt w' B0 Sb tg n {v with ri:=ri'} s/\Below B0 w w'/\
  OwnAt w' 3 1 (.slice A (rest.length+1) cap) (rest.length+1) (siv (a :: rest))/\(∀g,(Value.slice A (rest.length+1) cap).ownBlock=some g->w.heap.size<=g)/\S.Lrnd n cs s a rest bk
structure LM(w0:World)(B0 Sb n:Nat)(tg:TgF)(v:Sv)(s:S.Sol)(gs:Nat)(seen:List Bool)(vo:Value)(out:List Int)(w:World):Prop where
 sat:∃ri',SAt w B0 Sb tg n {v with ri:=ri'} s
 uw:Uw tg w0 w
 bl:Below B0 w0 w
 seen:w.heap[gs]? =some (.cells (seen.map Value.bool).toArray 4 (0,0))
 sg:w0.heap.size<=gs
 out:OwnAt w 3 1 vo out.length (siv out)
 ot:∀g,vo.ownBlock=some g->w0.heap.size<=g/\g≠gs
section
variable {w w0 w' : World} {B0 Sb n : Nat} {tg : TgF} {v : Sv} {s : S.Sol} {gs : Nat} {seen : List Bool} {vo : Value} {out : List Int}
theorem LM.dr(h:LM w0 B0 Sb n tg v s gs seen vo out w)(hd:Dr w w'):LM w0 B0 Sb n tg v s gs seen vo out w':=by
 obtain⟨ri,hs⟩:=h.sat;exact⟨⟨ri,hs.dr hd⟩,h.uw.trans (Uw.dr tg hd),h.bl.dr hd,((hd.below w.heap.size).block gs (gA h.seen).1).trans h.seen,h.sg,h.out.below (hd.below w.heap.size) h.out.lt,h.ot⟩
theorem LM.mark(h:LM w0 B0 Sb n tg v s gs seen vo out w)(hn:∀b,w0.heap.size<=b->tg b=none)(hB:B0<=w0.heap.size)(i:Nat):LM w0 B0 Sb n tg v s gs (seen.set i true) vo out (w.setCell ⟨gs,i,none⟩ (.bool true)):=by
 obtain⟨ri,hs⟩:=h.sat;have hk:∀b,b≠gs->(w.setCell ⟨gs,i,none⟩ (.bool true)).heap[b]? =w.heap[b]? :=fun b hb=>Below.heap_setCell w ⟨gs,i,none⟩ _ b hb
 have h0:=hn gs h.sg;refine⟨⟨ri,hs.frame (by rw[aAf];exact zBJ _) fun b t ht=>hk b fun e=>by subst e;rw[h0]at ht;cases ht⟩,⟨by rw[aAf];exact h.uw.size,fun b hb h1 h2=>(hk b (by have:=h.sg;omega)).trans (h.uw.keep b hb h1 h2)⟩,h.bl.setCell (p:=⟨gs,i,none⟩) (zBK hB h.sg) _,?_,h.sg,h.out.same fun g hg=>hk g (h.ot g hg).2,h.ot⟩;rw[heap_setCell_same w gs i _ _ _ h.seen];simp[List.map_set]
theorem LM.bump(h:LM w0 B0 Sb n tg v s gs seen vo out w)(hn:∀b,w0.heap.size<=b->tg b=none){ri':Value}(hs:SAt w' B0 Sb tg n {v with ri:=ri'} s)(hu:Uw tg w w')(hb:Below B0 w w'):LM w0 B0 Sb n tg v s gs seen vo out w':=by
 have hk:∀b,b<w.heap.size->tg b=none->w'.heap[b]? =w.heap[b]? :=fun b hb h0=>hu.keep b hb (by rw[h0];simp) (by rw[h0];simp)
 exact⟨⟨ri',hs⟩,h.uw.trans hu,h.bl.trans hb,(hk gs (gA h.seen).1 (hn gs h.sg)).trans h.seen,h.sg,h.out.same fun g hg=>hk g (h.out.lt g hg) (hn g (h.ot g hg).1),h.ot⟩
theorem LM.push(h:LM w0 B0 Sb n tg v s gs seen vo out w)(hn:∀b,w0.heap.size<=b->tg b=none)(hB:B0<=w0.heap.size){x:Int}{v':Value}{w1:World}{E:TypeId}(ho:OwnAt w1 3 1 v' (out.length+1) (siv out ++ [.int .i64 x]))(hg:(w.alloc (.cells #[.int .i64 x] E)).grownBy w1 vo.ownBlock)(hat:v'.ownBlock=vo.ownBlock\/v'.ownBlock=some (w.heap.size+1)):
 LM w0 B0 Sb n tg v s gs seen v' (out ++ [x]) w1:=by
 obtain⟨ri,hs⟩:=h.sat;have hW:Below w.heap.size w (w.alloc (.cells #[.int .i64 x] E)):=al0;have hsz:(w.alloc (.cells #[.int .i64 x] E)).heap.size=w.heap.size+1:=by simp
 have hsw:w.heap.size<=w1.heap.size:=by have:=hg.size;omega
 have hk:∀b,b<w.heap.size->(∀g,vo.ownBlock=some g->b≠g)->w1.heap[b]? =w.heap[b]? :=fun b hb hne=>(hg.block b (by omega) fun e=>hne b e.symm rfl).trans (hW.block b hb)
 have hgs:=(gA h.seen).1;refine⟨⟨ri,hs.frame hsw fun b t ht=>hk b (hs.lt b t ht).2 fun g hg e=>by subst e;rw[hn b (h.ot b hg).1]at ht;cases ht⟩,⟨zBK h.uw.size hsw,fun b hb h1 h2=>(hk b (by have:=h.uw.size;omega) fun g hg e=>by have:=(h.ot g hg).1;omega).trans (h.uw.keep b hb h1 h2)⟩,h.bl.trans ((hW.mono (by have:=h.uw.size;omega)).grown hg (by have:=h.uw.size;omega) fun g hg=>zBK hB (h.ot g hg).1),(hk gs hgs fun g hg e=>(h.ot g hg).2 e.symm).trans h.seen,h.sg,by rw[aEl,zAX];exact ho,fun g hg'=>?_⟩
 ·rcases hat with q | q
  ·exact h.ot g (by rw[<-q];exact hg')
  ·rw[q]at hg';obtain rfl:=zAH hg';exact⟨by have:=h.uw.size;omega,by omega⟩
theorem LM.cseen(h:LM w0 B0 Sb n tg v s gs seen vo out w){k:Nat}(hk:k<seen.length):w.cell? ⟨gs,k,none⟩=some (.bool (seen.getD k false))/\∀k,w.frozen? ⟨gs,k,none⟩=false:=by
 refine⟨?_,fun k=>by simp[World.frozen?,h.seen]⟩;rw[cell_of_row w gs k _ _ _ h.seen];simp[zAW,List.getD,zAB hk]
theorem aW6(h:SAt w B0 Sb tg n v s)(hn:n<=10){cs0 done:List (List Int)}{p:Nat}(hi:S.Inv n cs0 done p s)(hlim:s.lim≠ []){k:Nat}{c:List Int}(hc:c∈s.cls)(hf:∀m∈c,S.val s.val m= -1):
 Calls prog 102 #[.pointer (some ⟨Sb,0,none⟩), .int .i64 (k:Int)] w (aKs w B0 Sb n tg v (cs0 ++ s.lrn) s):=by
 have Hd:=kH (bBt h (by omega) hi.trl);obtain⟨a,rest,hd1,hd2⟩:=hi.decs hlim hc hf;have c3:=h.c3;have hl:s.lim.length=rest.length+1:=by
  have e:s.decs.length=s.lim.length:=by simp[S.Sol.decs]
  rw[hd1]at e;simpa using e.symm
 have HS:=kH h;have Hd1:=kH hd1;have Hd2:=kH hd2;have Hl:=kH hl;have hdk:decide ((n:Int)+1<=11)=true:=by simp;omega
 clear h hi hlim hc hf hd1 hd2 hl
 go_enter func102,ntmps102
 go_wp2_with fail
 refine Hd.out.mono ?_;rintro e w2 ⟨A,cap,rfl,k2,k3,k4⟩;have Hk:=kH (And.intro k2 (And.intro k3 k4));clear k2 k3 k4 c3 Hd;go_wp2;refine bodyPost_ret (results_tmp2 rfl _ _ _) rfl ?_;obtain⟨k2,k3,k4⟩:=Hk.out;rw[Hl.out,Hd1.out]at k3;rw[Hl.out]at k4;have hd2:=Hd2.out;rw[Hl.out]at hd2;have hb0:=HS.out.lt _ _ HS.out.st.2;exact⟨A,cap,a,rest,rest.length,v.ri,by rw[Hl.out];simp,HS.out.below k2,k2.mono (by omega),k3,k4,hd2⟩
end
end
end Go.Proofs.YtchdbhggbdcapaaGreat
