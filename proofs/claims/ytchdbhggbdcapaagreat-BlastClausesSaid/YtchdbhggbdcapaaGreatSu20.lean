/- Part. -/
import Derived.Test.YtchdbhggbdcapaaGreatSuLX
import Derived.Sort.CutIn
import Derived.Test.YtchdbhggbdcapaaGreatSu15
import Derived.Test.YtchdbhggbdcapaaGreatSu02
import Derived.Test.YtchdbhggbdcapaaGreatSu19
set_option linter.unusedVariables false
set_option linter.unusedSimpArgs false
set_option maxRecDepth 100000
set_option maxHeartbeats 16000000
namespace Go.Proofs.YtchdbhggbdcapaaGreat
open _root_.Go.Proofs.Tryz
section
open Go.RowKit Go.MapKept Go.Maps Go.WideMaps
def rootW(t:List T.Nd):Int:=(t.getD (t.length-1) default).w
def aAb(t:List T.Nd):Int:=if T.valid true t≠0 then T.valid true t else if rootW t≠1 then 6 else 0
theorem aH4(t:List T.Nd)(n ct:Nat)(At:Option Addr)(W:World)(hT:StAt 5 NdR W At n t):
 Calls prog 40 #[.slice At n ct] W fun e w'=>e= .returned (.int .i64 (aAb t))/\Below W.heap.size W w':=by
 have HV:=kH (aEz t n ct At W hT);have HT:=kH hT;have hle:=hT.le;have Hlen:=kH hT.len;obtain⟨v,hv⟩:∃v,T.valid true t=v:=⟨_,rfl⟩;have hce:aAb t=if v≠0 then v else if rootW t≠1 then 6 else 0:=by unfold aAb;rw[hv]
 rw[hv]at HV;have Hv:=kH hv;have Hce:=kH hce;clear hT hv hce
 by_cases h0:v=0
 ·subst h0;obtain⟨v1,_⟩:=aBk Hv.out;have hn1:1<=n:=by have:=Hlen.out;omega
  obtain⟨n1,hn1'⟩:∃n1,n-1=n1:=⟨_,rfl⟩;have hni:((n:Nat):Int)-1=((n1:Nat):Int):=by omega
  have hlt:n1<n:=by omega
  obtain⟨x,b,off,A,c,hx,rfl,hb,x0,x1,_⟩:=aBf HT.out hlt;have hxw:rootW t=x.w:=by unfold rootW;rw[Hlen.out,hn1',List.getD,hx];rfl
  have hwn:IntKind.i64.wrap ((n:Int)-1)=(n1:Int):=by rw[hni];exact IntWalk.i64_in _ (by omega)
  have Hx1:=kH (And.intro hb x1);have Hxw:=kH hxw;clear hx x0 x1 hb hxw hn1' hni
  by_cases hw1:x.w=1
  ·have hres:aAb t=0:=by rw[Hce.out,if_neg (by simp),Hxw.out,if_neg (by simp[hw1])]
   have Hres:=kH hres;clear hres
   go_enter func40,ntmps40
   go_wp2_with fail
   refine HV.out.mono ?_;rintro e w1 ⟨rfl,hb1⟩;have k1:=(hb1.cell (p:=⟨b,off+n1*5+1,none⟩) Hx1.out.1).trans Hx1.out.2;rw[hw1]at k1;have Hb1:=kH hb1;clear hb1 HV hw1;go_wp2;go_ret;exact⟨by rw[Hres.out];rfl,Hb1.out⟩
  ·have hres:aAb t=6:=by rw[Hce.out,if_neg (by simp),Hxw.out,if_pos hw1]
   have hq:(x.w == 1)=false:=by simpa using hw1
   have hq2:(x.w != 1)=true:=by simpa using hw1
   have Hres:=kH hres;clear hres hw1
   go_enter func40,ntmps40
   go_wp2_with fail
   refine HV.out.mono ?_;rintro e w1 ⟨rfl,hb1⟩;have k1:=(hb1.cell (p:=⟨b,off+n1*5+1,none⟩) Hx1.out.1).trans Hx1.out.2;have Hb1:=kH hb1;clear hb1 HV;go_wp2;go_ret;exact⟨by rw[Hres.out];rfl,Hb1.out⟩
 ·have hres:aAb t=v:=by rw[Hce.out,if_pos h0]
  have hq:(v == 0)=false:=by simpa using h0
  have hq2:(v != 0)=true:=by simpa using h0
  have Hres:=kH hres;clear hres h0
  go_enter func40,ntmps40
  go_wp2_with fail
  refine HV.out.mono ?_;rintro e w1 ⟨rfl,hb1⟩;have Hb1:=kH hb1;clear hb1 HV;go_wp2;go_ret;exact⟨by rw[Hres.out];rfl,Hb1.out⟩
theorem aMq{w:World}{v:Value}{us:List Value}{cs:List (List Int)}(h:OwnAt w 37 1 v cs.length us)(hu:us.length=cs.length)(hk:∀(k:Nat) (c:List Int),cs[k]? =some c->∃u:Value,us[k]? =some u/\OwnAt w 3 1 u c.length (siv c)):
 ∃A cap,v= .slice A cs.length cap/\SlAt (SlR (IntR .i64)) w A cs.length cs:=by
 obtain⟨A,cap,rfl⟩:=h.form;refine⟨A,cap,rfl,rfl,by have:=h.le;simpa using this,fun k c hc=>?_⟩;obtain⟨u,hu1,hu2⟩:=hk k c hc;obtain⟨g,o,c',q1,q2,_⟩:=aAg h hu1;injection q1 with q1 _ _
 obtain⟨Au,cu,rfl⟩:=hu2.form;exact⟨g,o,_,q1,aC0 q2,q2,Au,cu,rfl,hu2.slInts⟩
end
section
open Go.RowKit
def BnArg(W0:World)(p:Nat×T.Nd)(args:Array Value):Prop:=∃A c,args= #[.int .i64 (p.1:Int),ndV p.2 A c]/\∀X,Below W0.heap.size W0 X->SlAt (IntR .i64) X A p.2.args.length p.2.args
def BnSL(W0:World)(B:Nat)(At:Option Addr)(n ct:Nat)(W:World):Prop:=W.cell? ⟨B,0,none⟩=some (.slice At n ct)/\Below W0.heap.size W0 W
theorem aXg(W0:World)(B:Nat)(At:Option Addr)(n ct:Nat)(t:List T.Nd)(hT:StAt 5 NdR W0 At n t)(hn:n<=1000000)(Wc:World):
 SeqC prog 147 #[.pointer (some ⟨B,0,none⟩)] (BnArg W0) (BnSL W0 B At n ct) (bwp t) Wc:=by
 intro l J hSL hY h0;have hc0:=(hSL _ _ h0).1;have HSL:=kH hSL;have HY:=kH hY;have H0:=kH h0;have HT:=kH hT;have Hl:=kH hT.len;clear hSL hY h0 hT;simp only[List.append_toArray,List.nil_append,List.cons_append]
 go_enter func147,ntmps147
 go_wp2
 go_loopg [3] (n+1) (fun g i3 wr=>∃(j:Nat),j<=n/\i3= .int .i64 ((n:Int)-1- (j:Int))/\g+j=n+1/\Hid (J ((bwp t).take j) wr))
 case atStart=>exact⟨0,zBL _,by simp,rfl,H0⟩
 case round=>
  obtain⟨j,hj,rfl,hgk,H1⟩:=hrel;have Hgk:=kH hgk;clear hgk hc0
  by_cases hjn:j<n
  ·obtain⟨i,hi⟩:∃i,i+j+1=n:=⟨n-1-j,by omega⟩;have e:(n:Int)-1- (j:Int)=(i:Int):=by omega
   rw[e];obtain⟨s1,s2⟩:=HSL.out _ _ H1.out;obtain⟨x,b,off,A,c,hx,rfl,hb,y0,y1,y2,y3,y4,hs,i0,i1⟩:=aBf HT.out (j:=i) (by omega);have x0:=(s2.cell (p:=⟨b,off+i*5,none⟩) hb).trans y0;have x1:=(s2.cell (p:=⟨b,off+i*5+1,none⟩) hb).trans y1;have x2:=(s2.cell (p:=⟨b,off+i*5+2,none⟩) hb).trans y2;have x3:=(s2.cell (p:=⟨b,off+i*5+3,none⟩) hb).trans y3;have x4:=(s2.cell (p:=⟨b,off+i*5+4,none⟩) hb).trans y4;have hpre:(bwp t).take j ++ [(i,x)] <+:bwp t:=by rw[<-aI0 hx (by rw[Hl.out];exact hi)];exact List.take_prefix _ _
   have harg:BnArg W0 (i,x) #[.int .i64 (i:Int),ndV x A c]:=⟨A,c,rfl,fun X hX=>hs.below (aAd _) hX⟩;obtain⟨fn,tmps,assign,body,hy,hR⟩:=HY.out _ (i,x) wr #[.int .i64 (i:Int),ndV x A c] H1.out harg hpre;have HR:=kH hR;have Hx:=kH hx;have Hi:=kH hi;have hin:(i:Int) <(n:Int):=by omega
   have hi0:decide ((0:Int)<=(i:Int))=true:=by simp
   unfold ndV at hy;clear hR hx hpre harg e s2 hi hb hs i0 i1 y0 y1 y2 y3 y4
   go_upto_region 3 with(fail)
   refine(wpIn_wide (n:=1)).1 ?_
   gi_wp2
   refine HR.out.mono ?_;rintro e W2 ⟨rfl,hj2⟩;have HJ2:=kH hj2;clear hj2 hy s1 x0 x1 x2 x3 x4
   gi_wp2
   go_wp2;have hgk:=Hgk.out
   go_roundg (gk-1)
   case measure=>omega
   case rel=>
    have hi:=Hi.out;refine⟨j+1,by omega,by go_num,by omega,?_⟩;rw[aI0 Hx.out (by rw[Hl.out];exact hi)];exact HJ2
  ·obtain rfl:j=n:=by omega
   rw[zAK (by rw[aLf,Hl.out];exact zBJ _)]at H1;have e:(j:Int)-1- (j:Int)= -1:=by omega
   rw[e];go_wp2
   go_end0
   exact⟨⟨_,rfl⟩,H1.out⟩
theorem aQm(A:Option Addr)(n c:Nat)(W:World):Calls prog 114 #[.slice A n c] W fun e w'=>
 e= .returned (.func (.func 147) #[] #[.pointer (some ⟨W.heap.size,0,none⟩)])/\w'=W.alloc (.cells #[.slice A n c] 22):=by
 go_enter func114,ntmps114
 go_wp2;go_ret;exact⟨rfl,rfl⟩
attribute [local go_sem] Oper.semAt_some
theorem Tryz.binfo:(prog.info? 4).map (fun i=>(i.zero,i.size,i.bytes))=some (some (.bool false),1,1):=by kernel_rfl
def aGn(k:Nat)(o:List Bool)(a:Int):List Bool:=o.set a.toNat (o.getD a.toNat false || o.getD k false)
theorem aZh{p:List T.Nd}{k:Nat}{x:T.Nd}(o:List Bool)(hx:p[k]? =some x):R.need1 p o k=x.args.foldl (aGn k) o:=by
 unfold R.need1;rw[zAT,hx];rfl
theorem bD6{α:Type}(xs:List α):(bwp xs).map Prod.fst=(List.range xs.length).reverse:=by
 unfold bwp;rw[List.map_reverse,List.map_map]
 congr 1
 have:∀(l:List α) (k:Nat),List.map (Prod.fst∘fun p:α×Nat=>(p.2,p.1)) (l.zipIdx k)=List.range' k l.length:=by
  intro l;induction l with
  | nil=>intro k;rfl
  | cons a l ih=>intro k;simp[List.zipIdx_cons,ih,List.range'_succ]
 rw[this xs 0,List.range_eq_range']
theorem aZi(p:List T.Nd):(bwp p).foldl (fun o q=>R.need1 p o q.1) ((List.replicate p.length false).set (p.length-1) true)=R.need p:=by
 have:(bwp p).foldl (fun o q=>R.need1 p o q.1) ((List.replicate p.length false).set (p.length-1) true)=((bwp p).map Prod.fst).foldl (R.need1 p) ((List.replicate p.length false).set (p.length-1) true):=by rw[List.foldl_map]
 rw[this,bD6];rfl
structure NeI(w:World)(Ap:Option Addr)(n cp:Nat)(o:List Bool)(Y:World):Prop where
 below:Below w.heap.size w Y
 bx:Y.heap[w.heap.size+1]? =some (.cells #[.slice (some ⟨w.heap.size,0,none⟩) n n] 65 (0,0))
 bb:Y.heap[w.heap.size+2]? =some (.cells #[.slice Ap n cp] 22 (0,0))
 ro:Y.heap[w.heap.size]? =some (.cells (o.map Value.bool).toArray 4 (0,0))
 ol:o.length=n
theorem NeI.only{w:World}{Ap:Option Addr}{n cp L:Nat}{o:List Bool}{Y Y':World}(h:NeI w Ap n cp o Y)(hL:w.heap.size+3<=L)(ho:Only L Y Y'):NeI w Ap n cp o Y':=
 ⟨h.below.trans (ho.below (by omega)),(ho.block _ (by omega)).trans h.bx,(ho.block _ (by omega)).trans h.bb,(ho.block _ (by omega)).trans h.ro,h.ol⟩
theorem NeI.bel{w:World}{Ap:Option Addr}{n cp:Nat}{o:List Bool}{Y Y':World}(h:NeI w Ap n cp o Y)(hs:w.heap.size+3<=Y.heap.size)(ho:Below Y.heap.size Y Y'):NeI w Ap n cp o Y':=
 ⟨h.below.trans (ho.mono h.below.size),(ho.block _ (by omega)).trans h.bx,(ho.block _ (by omega)).trans h.bb,(ho.block _ (by omega)).trans h.ro,h.ol⟩
theorem NeI.put{w:World}{Ap:Option Addr}{n cp:Nat}{o:List Bool}{Y:World}(h:NeI w Ap n cp o Y)(i:Nat)(v:Bool):NeI w Ap n cp (o.set i v) (Y.setCell ⟨w.heap.size,i,none⟩ (.bool v)):=by
 have hk:∀k,k≠w.heap.size->(Y.setCell ⟨w.heap.size,i,none⟩ (.bool v)).heap[k]? =Y.heap[k]? :=fun k hk=>Below.heap_setCell Y ⟨w.heap.size,i,none⟩ _ k hk
 refine⟨h.below.setCell (p:=⟨w.heap.size,i,none⟩) (zBJ _) _,(hk _ (by omega)).trans h.bx,(hk _ (by omega)).trans h.bb,?_,by rw[zBC];exact h.ol⟩;rw[heap_setCell_same Y w.heap.size i _ _ _ h.ro];simp[List.map_set]
def bD7(args:Array Value):Array Value:=match args.getD 1 undef with | .agg cs=>cs | _=> #[]
def fwN(args:Array Value)(A:World):World:=A.alloc (.cells (bD7 args) 56)
theorem aUg(p:List T.Nd)(m cp:Nat)(Ap:Option Addr)(w:World)(hP:StAt 5 NdR w Ap (m+1) p)(hn:m+1<=100000)(harg:∀x∈p,∀a∈x.args,0<=a/\a<((m+1:Nat):Int)):
 Calls prog 69 #[.slice Ap (m+1) cp] w fun e w'=>e= .returned (.slice (some ⟨w.heap.size,0,none⟩) (m+1) (m+1))/\Below w.heap.size w w'/\w'.heap[w.heap.size]? =some (.cells ((R.need p).map Value.bool).toArray 4 (0,0)):=by
 have hlen:=hP.len;have HP:=kH hP;have Harg:=kH harg;have Hlen:=kH hlen;have hmk:=fun(W':World)=>aBd (P:=prog) 65 4 (.bool false) 1 underlying65 Tryz.binfo rfl .i64 .i64 (m+1) ((m:Int)+1) (by omega) (by omega) (by omega) W'
 have em:(m:Int)+1-1=(m:Int):=by omega
 clear hP harg hlen;refine(callsIn_wide (n:=0)).1 (callsIn_of_wp_marks func69 rfl trivial ((wpIn_wide (n:=0)).2 ?_));simp only[ntmps69,List.size_toArray,List.length_cons,List.length_nil,Nat.reduceAdd,Nat.reduceSub,Array.replicate_succ,Array.replicate_zero,List.push_toArray,List.append_toArray,List.nil_append,List.cons_append]
 go_upto_region 2 with(fail)
 obtain⟨W1,hW1⟩:∃W1,W1=(w.alloc (.cells (Array.replicate (m+1) (Value.bool false)) 4)).alloc (.cells #[.slice (some ⟨w.heap.size,0,none⟩) (m+1) (m+1)] 65):=⟨_,rfl⟩;rw[<-hW1];have hr0:W1.heap[w.heap.size]? =some (.cells (Array.replicate (m+1) (Value.bool false)) 4 (0,0)):=by rw[hW1];exact aA1 (heap_alloc_new w _) _
 have hr1:W1.heap[w.heap.size+1]? =some (.cells #[.slice (some ⟨w.heap.size,0,none⟩) (m+1) (m+1)] 65 (0,0)):=by rw[hW1];exact aC2 w _ _
 have hb1:Below w.heap.size w W1:=by rw[hW1];exact(al0).alloc (by simp) _
 have hs1:W1.heap.size=w.heap.size+2:=by rw[hW1];simp
 have hc1:=aB2 hr1;have hc0:W1.cell? ⟨w.heap.size,m,none⟩=some (.bool false):=by rw[cell_of_row _ _ _ _ _ (0,0) hr0];simp
 have hf0:=aCm hr0 m;obtain⟨W2,hW2⟩:∃W2,W2=W1.setCell ⟨w.heap.size,m,none⟩ (.bool true):=⟨_,rfl⟩;have HI2:Hid (∀X,Below W2.heap.size W2 X->X.heap[w.heap.size+2]? =some (.cells #[.slice Ap (m+1) cp] 22 (0,0))->NeI w Ap (m+1) cp ((List.replicate p.length false).set (p.length-1) true) X):=kH (fun X hX h2=>by
  have hs2:W2.heap.size=w.heap.size+2:=by rw[hW2,aAf];exact hs1
  have hb2:Below w.heap.size w W2:=by rw[hW2];exact hb1.setCell (p:=⟨w.heap.size,m,none⟩) (zBJ _) _
  refine⟨hb2.trans (hX.mono (by omega)),(hX.block _ (by omega)).trans (by rw[hW2];exact(Below.heap_setCell W1 ⟨w.heap.size,m,none⟩ _ _ (by show w.heap.size+1≠w.heap.size;omega)).trans hr1),h2,(hX.block _ (by omega)).trans ?_,by rw[zBC,zBN,Hlen.out]⟩;rw[hW2,heap_setCell_same W1 w.heap.size m _ _ _ hr0,Hlen.out];have e:((((List.replicate (m+1) false).set (m+1-1) true).map Value.bool).toArray)=(Array.replicate (m+1) (Value.bool false)).setIfInBounds m (.bool true):=by
   rw[<-List.toArray_replicate,List.setIfInBounds_toArray];simp[List.map_set]
  rw[e])
 have HS2:=kH (show W2.heap.size=w.heap.size+2 from by rw[hW2,aAf];exact hs1);clear hW1 hb1 hs1 hr0 hr1
 go_upto_region 3 with(fail)
 rw[<-hW2];clear hW2 hc1 hc0 hf0 hmk em
 go_wp2_with (go_at_call 114;(with_reducible refine(aQm _ _ _ _).mono ?_);rintro e X1 ⟨rfl,hX1⟩;have HXX:=kH hX1;clear hX1)
 have hx1s:X1.heap.size=w.heap.size+3:=by rw[HXX.out];simp[HS2.out]
 have HI1:=kH (show∀W1,Below X1.heap.size X1 W1->NeI w Ap (m+1) cp ((List.replicate p.length false).set (p.length-1) true) W1 from fun W1 hb=>HI2.out W1 ((show Below W2.heap.size W2 X1 from by rw[HXX.out];exact al0).trans (hb.mono (by have:=HS2.out;omega))) ((hb.block _ (by omega)).trans (by rw[HXX.out,<-HS2.out];exact heap_alloc_new W2 _)));rw[HS2.out];clear HI2 HXX HS2;refine aOq (gf:=147) (lb:= #[.pointer (some ⟨w.heap.size+2,0,none⟩)]) rfl (enters_of func147 (by kernel_rfl) rfl)
  (Arg:=BnArg w) (SL:=BnSL w (w.heap.size+2) Ap (m+1) cp) (xs:=bwp p) (fun Wc _ _=>aXg w _ _ _ _ _ HP.out (by omega) Wc) ?hps
  (fun pre Y=>NeI w Ap (m+1) cp (pre.foldl (fun o q=>R.need1 p o q.1) ((List.replicate p.length false).set (p.length-1) true)) Y/\w.heap.size+5<=Y.heap.size)
  ?hI ?hSL ?h0
  (fun args A=>{tmps:= #[.slice Ap (m+1) cp,undef, .slice none 0 0, .pointer (some ⟨w.heap.size+1,0,none⟩),args.getD 0 undef, .pointer (some ⟨A.heap.size,0,none⟩),undef,undef, .slice Ap (m+1) cp, .int .i64 ((m:Int)+1), .slice (some ⟨w.heap.size,0,none⟩) (m+1) (m+1), .slice (some ⟨w.heap.size,0,none⟩) (m+1) (m+1), .slice Ap (m+1) cp, .int .i64 ((m:Int)+1), .int .i64 (m:Int), .pointer (some ⟨w.heap.size,m,none⟩), .slice Ap (m+1) cp, .func (.func 147) #[] #[.pointer (some ⟨w.heap.size+2,0,none⟩)],args.getD 0 undef,args.getD 1 undef,undef,undef,undef,undef,undef,undef,undef,undef,undef,undef,undef,undef,undef,undef,undef,undef,undef,undef,undef,undef,undef,undef],defers:= []}) fwN (fun args A=>al0)
  ?assign ?body ?done
 case hps=>rintro x args ⟨A,c,rfl,_⟩;rfl
 case hI=>
  rintro pre A A' ⟨h1,h2⟩ ho;rw[hx1s]at ho;exact⟨h1.only (by omega) ho,by rw[ho.size];exact h2⟩
 case hSL=>
  rintro pre A ⟨h1,h2⟩;exact⟨aB2 h1.bb,h1.below⟩
 case h0=>exact fun W1 hb1 hs1=>⟨HI1.out W1 hb1,by omega⟩
 case assign=>
  rintro l x args A KK ⟨Aa,ca,rfl,_⟩ hK;have HK:=kH hK;clear hK;unfold ndV
  gi_wp2
  exact HK.out
 case body=>
  rintro l pre ⟨i,x⟩ args A Y ⟨h1,h2⟩ ⟨Aa,ca,rfl,hsl⟩ h6 h7 hO;rw[hx1s]at hO;obtain⟨bn,hbn⟩:∃bn,A.heap.size=bn:=⟨_,rfl⟩;have hin:=h7.subset (zAP _ (zBD.2 rfl));have hx:p[i]? =some x:=by
   unfold bwp at hin;rw[List.mem_reverse,zBU]at hin;obtain⟨⟨y,k⟩,hy,e⟩:=hin;injection e with e1 e2
   subst e1 e2;exact List.mem_zipIdx_iff_getElem?.1 hy
  have him:i<m+1:=by have:=(zAA.1 hx).1;have:=Hlen.out;omega
  have hfw:Below A.heap.size A (fwN #[.int .i64 (i:Int),ndV x Aa ca] A):=al0;have h1y:=(h1.bel (by omega) hfw).only (L:=w.heap.size+3+1) (by omega) hO;have hrow:Y.heap[bn]? =some (.cells #[.int .i64 x.op, .int .i64 x.w, .int .i64 x.fl, .slice Aa x.args.length ca, .int .u32 x.imm] 56 (0,0)):=by
   rw[<-hbn];exact(hO.block _ (by omega)).trans (heap_alloc_new A _)
  have hys:A.heap.size+1=Y.heap.size:=by rw[hO.size];simp[fwN]
  obtain⟨o,ho⟩:∃o,pre.foldl (fun o q=>R.need1 p o q.1) ((List.replicate p.length false).set (p.length-1) true)=o:=⟨_,rfl⟩;have hfold:(pre ++ [(i,x)]).foldl (fun o q=>R.need1 p o q.1) ((List.replicate p.length false).set (p.length-1) true)=x.args.foldl (aGn i) o:=by
   rw[List.foldl_append,ho,List.foldl_cons,List.foldl_nil,aZh _ hx]
  rw[ho]at h1y;have Hf:=kH hfold;have Hsl:=kH hsl;have Hy:=kH h1y;have Hax:=kH (Harg.out x (zAC hx));have hsle:x.args.length<=9223372036854775807:=(hsl w (Below.refl _ _)).le;have hn3:Y.cell? ⟨bn,3,none⟩=some (.slice Aa x.args.length ca):=by rw[cell_of_row _ _ _ _ _ (0,0) hrow];rfl
  have Hys:=kH (show w.heap.size+6<=Y.heap.size from by omega);obtain⟨na,hna⟩:∃na,x.args.length=na:=⟨_,rfl⟩;rw[hna]at hn3 hsle;have Hna:=kH hna;unfold ndV;simp only[hbn,hna];clear hfold hsl h1y h1 h2 h6 h7 hO hin hx hfw hrow hys ho hna hbn
  gi_wp2
  gi_loopg [23] (na+1) (fun g i23 wr=>∃q:Nat,q<=na/\i23= .int .i64 (q:Int)/\g+q=na+1/\Hid (NeI w Ap (m+1) cp ((x.args.take q).foldl (aGn i) o) wr/\Two (w.heap.size+3) Y wr))
  case atStart=>exact⟨0,zBL _,rfl,rfl,kH ⟨Hy.out,Two.refl _ _⟩⟩
  case round=>
   obtain⟨q,hq,rfl,hgk,HQ⟩:=hrel;have Hgk:=kH hgk;clear hgk hn3
   by_cases hlt:q<na
   ·obtain⟨a,bA,offA,u,ha,rfl,hbA,hcA,rfl⟩:=(Hsl.out wr HQ.out.1.below).at_ (k:=q) (by have:=Hna.out;show q<x.args.length;omega);obtain⟨a0,a1⟩:=Hax.out a (zAC ha);obtain⟨av,rfl⟩:∃v:Nat,a=v:=⟨a.toNat,by omega⟩;have hav:av<m+1:=by omega
    have hav2:((av:Nat):Int) <(m:Int)+1:=by omega
    obtain⟨o3,ho3⟩:∃o3,(x.args.take q).foldl (aGn i) o=o3:=⟨_,rfl⟩;have hst:(x.args.take (q+1)).foldl (aGn i) o=aGn i o3 ((av:Nat):Int):=by
     rw[List.take_add_one,ha,List.foldl_append,ho3];rfl
    rw[ho3]at HQ;have hol:=HQ.out.1.ol;obtain⟨ba,hba⟩:∃ba,o3[av]? =some ba:=⟨_,zAB (by omega)⟩;obtain⟨bi,hbi⟩:∃bi,o3[i]? =some bi:=⟨_,zAB (by omega)⟩;have hca:wr.cell? ⟨w.heap.size,av,none⟩=some (.bool ba):=by
     rw[cell_of_row _ _ _ _ _ (0,0) HQ.out.1.ro,zAV,zAW,hba];rfl
    have hci:wr.cell? ⟨w.heap.size,i,none⟩=some (.bool bi):=by
     rw[cell_of_row _ _ _ _ _ (0,0) HQ.out.1.ro,zAV,zAW,hbi];rfl
    have hfz:=aCm HQ.out.1.ro av;have hcb:=aB2 HQ.out.1.bx;have hset:aGn i o3 ((av:Nat):Int)=o3.set av (ba || bi):=by
     unfold aGn;rw[zBA,zAT,zAT,hba,hbi];rfl
    have Hst:=kH (hst.trans hset);have hii:((i:Nat):Int) <(m:Int)+1:=by omega
    have HC:=kH (show wr.drew.cell? ⟨w.heap.size+1,0,none⟩=some (.slice (some ⟨w.heap.size,0,none⟩) (m+1) (m+1))/\wr.drew.cell? ⟨w.heap.size,av,none⟩=some (.bool ba)/\wr.drew.cell? ⟨w.heap.size,i,none⟩=some (.bool bi)from⟨hcb,hca,hci⟩);have Hfz:=kH (show wr.drew.frozen? ⟨w.heap.size,av,none⟩=false from hfz);clear ho3 hst hset hba hbi hol ha hbA a0 a1 hca hci hcb hfz
    gi_upto_region 9 with(fail)
    refine aKo 12 (by kernel_rfl) (by kernel_rfl) (by kernel_rfl) (fun h=>by obtain⟨a,w,h⟩:=h;exact h) ?_;simp only[List.take_succ_cons,List.take_zero];refine wpAny_of_held (S:=fun Y=>Y.cell? ⟨w.heap.size+1,0,none⟩=some (.slice (some ⟨w.heap.size,0,none⟩) (m+1) (m+1))/\Y.cell? ⟨w.heap.size,av,none⟩=some (.bool ba)/\Y.cell? ⟨w.heap.size,i,none⟩=some (.bool bi)) _ _ _ _ ?_;have hHh:(fun Y:World=>Y.cell? ⟨w.heap.size+1,0,none⟩=some (.slice (some ⟨w.heap.size,0,none⟩) (m+1) (m+1))/\Y.cell? ⟨w.heap.size,av,none⟩=some (.bool ba)/\Y.cell? ⟨w.heap.size,i,none⟩=some (.bool bi)) wr.drew:=HC.out;have hfz2:=Hfz.out;have hcav:=HC.out.2.1;have hs6:=Hys.out;have hn0:=(HQ.out.1.bel (by have:=Hys.out;have:=HQ.out.2.size;omega) ((Below.refl _ wr).drew)).put av (ba || bi);have ht0:Two (w.heap.size+3) Y (wr.drew.setCell ⟨w.heap.size,av,none⟩ (.bool (ba || bi))):=HQ.out.2.trans ⟨by rw[aAf];exact zBJ _,Below.heap_setCell _ _ _ _ (by show w.heap.size+3≠w.heap.size;omega),Below.heap_setCell _ _ _ _ (by show w.heap.size+3+1≠w.heap.size;omega)⟩;have Hn:=kH (And.intro hn0 ht0);clear hn0 ht0;cases ba with
    | true=>
     rw[Bool.true_or]at Hn;refine tK 0 ?_;refine tK 1 ?_;refine tK 2 ?_;refine tK 3 ?_;refine tK 4 ?_;refine tK 5 ?_;refine tK 6 ?_;refine wpAnyH_take (i:=7) (oi:=_) (v:=undef) rfl (by kernel_rfl) (by kernel_rfl) (by kernel_rfl) (fun _ _ _ h=>h) (Or.inr ⟨by rfl,rfl⟩) hHh ?_
     try simp only[Act.put,yL]
     refine wpAnyH_take (i:=8) (oi:=_) (v:=undef) rfl (by kernel_rfl) (by kernel_rfl) (by kernel_rfl) (fun _ _ _ h=>h) (Or.inr ⟨by rfl,rfl⟩) hHh ?_
     try simp only[Act.put,yL]
     refine wpAnyH_take (i:=9) (oi:=_) (v:=undef) rfl (by kernel_rfl) (by kernel_rfl) (by kernel_rfl) (fun _ _ _ h=>h) (Or.inr ⟨by rfl,rfl⟩) hHh ?_
     try simp only[Act.put,yL]
     refine wpAnyH_take (i:=10) (oi:=_) (v:=undef) rfl (by kernel_rfl) (by kernel_rfl) (by kernel_rfl) (fun _ _ _ h=>h) (Or.inr ⟨by rfl,rfl⟩) hHh ?_
     try simp only[Act.put,yL]
     refine tK 11 ?_;refine wpAnyH_done (by kernel_rfl) ?_ _;go_wp2
     gi_wp2
     gi_roundg (gk-1)
     case measure=>have:=Hgk.out;omega
     case rel=>exact⟨q+1,by omega,by go_num,by have:=Hgk.out;omega,kH ⟨by rw[Hst.out];exact Hn.out.1,Hn.out.2⟩⟩
    | false=>
     rw[Bool.false_or]at Hn;refine tK 0 ?_;refine tK 1 ?_;refine tK 2 ?_;refine tK 3 ?_;refine tK 4 ?_;refine tK 5 ?_;refine tK 6 ?_;refine tK 7 ?_;refine tK 8 ?_;refine tK 9 ?_;refine tK 10 ?_;refine tK 11 ?_;refine wpAnyH_done (by kernel_rfl) ?_ _;go_wp2
     gi_wp2
     gi_roundg (gk-1)
     case measure=>have:=Hgk.out;omega
     case rel=>exact⟨q+1,by omega,by go_num,by have:=Hgk.out;omega,kH ⟨by rw[Hst.out];exact Hn.out.1,Hn.out.2⟩⟩
   ·have hqn:q=na:=by omega
    subst hqn;have ht:x.args.take q=x.args:=by rw[<-Hna.out];exact List.take_length
    rw[ht,<-Hf.out]at HQ
    gi_wp2
    exact⟨by first | exact HQ.out.2 |(rw[hx1s];exact HQ.out.2),HQ.out.1,by have:=HQ.out.2.size;have:=Hys.out;omega⟩
 case done=>
  rintro Y ⟨h1,h2⟩ h4 h5;rw[aZi]at h1;have hcb:=aB2 h1.bx;have Hh1:=kH h1;have Hd4:=kH h4;have Hh5:=kH h5;clear h1 h2 h4 h5;go_wp2;refine aKr (r:=X1.heap.size) Hd4.out ⟨.slice (some ⟨w.heap.size,0,none⟩) (m+1) (m+1),by simp[results,Tryz.f69,go_sem],?_⟩;have ho:Only X1.heap.size Y (Y.putObj X1.heap.size (.deferred none)):=Only.put _ _ _;exact⟨rfl,Hh1.out.below.trans (ho.below (by omega)),(ho.block _ (by omega)).trans Hh1.out.ro⟩
end
section
open Go.RowKit Go.MapKept Go.Maps Go.WideMaps
def vst(ws:List Int)(v j:Nat):List (List Int):=(List.range 4).map fun i=>if i<v then C.aAz (C.total (ws.take i)) (ws.getD i 0).toNat else if i=v then C.aAz (C.total (ws.take v)) j else []
theorem aC5(ws:List Int)(v j:Nat):(vst ws v j).length=4:=by simp[vst]
theorem aHq{ws:List Int}{v j i:Nat}(h:i<4):(vst ws v j)[i]? =some (if i<v then C.aAz (C.total (ws.take i)) (ws.getD i 0).toNat else if i=v then C.aAz (C.total (ws.take v)) j else []):=by
 unfold vst;rw[zAW,List.getElem?_range h];rfl
theorem aUh(K j:Nat):C.aAz K (j+1)=C.aAz K j ++ [((K+2+j:Nat):Int)]:=by
 unfold C.aAz;rw[List.range_succ,zBS];rfl
theorem aJa(K j:Nat):(C.aAz K j).length=j:=by simp[C.aAz]
theorem bFx(ws:List Int)(v j:Nat)(hv:v<4):vst ws v (j+1)=(vst ws v j).set v (C.aAz (C.total (ws.take v)) (j+1)):=by
 apply List.ext_getElem?;intro i;rw[List.getElem?_set]
 by_cases hi:i<4
 ·rw[aHq hi,aHq hi]
  by_cases e:v=i
  ·subst e;simp[aC5,hv]
  ·rw[if_neg e];have:¬i=v:=fun h=>e h.symm
   simp[this]
 ·have h1:(vst ws v (j+1))[i]? =none:=zAN (by rw[aC5];omega);have h2:(vst ws v j)[i]? =none:=zAN (by rw[aC5];omega);rw[h1,h2];split
  ·rename_i e;subst e;rw[if_neg (by rw[aC5];omega)]
  ·rfl
theorem bD8(ws:List Int)(v j:Nat)(hv:v<4):(vst ws v 0).set v (C.aAz (C.total (ws.take v)) j)=vst ws v j:=by
 apply List.ext_getElem?;intro i;rw[List.getElem?_set]
 by_cases hi:i<4
 ·rw[aHq hi,aHq hi]
  by_cases e:v=i
  ·subst e;simp[aC5,hv]
  ·rw[if_neg e];have:¬i=v:=fun h=>e h.symm
   simp[this]
 ·have h1:(vst ws v j)[i]? =none:=zAN (by rw[aC5];omega);have h2:(vst ws v 0)[i]? =none:=zAN (by rw[aC5];omega);rw[h1,h2];split
  ·rename_i e;subst e;rw[if_neg (by rw[aC5];omega)]
  ·rfl
theorem bB0(ws:List Int)(v:Nat)(hv:v<4):vst ws v (ws.getD v 0).toNat=vst ws (v+1) 0:=by
 apply List.ext_getElem?;intro i
 by_cases hi:i<4
 ·rw[aHq hi,aHq hi]
  by_cases e:i=v
  ·subst e;simp
  ·by_cases e2:i<v
   ·simp[e2,Nat.lt_succ_of_lt e2]
   ·have h3:¬i<v+1:=by omega
    simp[e,e2,h3];intro _;rfl
 ·rw[zAN (by rw[aC5];omega),zAN (by rw[aC5];omega)]
theorem bB1(ws:List Int):vst ws 0 0=List.replicate 4 []:=by
 unfold vst;rfl
theorem bD9(ws:List Int)(h:ws.length=4):vst ws 4 0=C.aAj ws 0:=by
 apply List.ext_getElem?;intro i
 by_cases hi:i<4
 ·rw[aHq hi,if_pos hi];have:=C.aC6 ws 0 i (by omega);rw[zBH,List.getD,zAB (by rw[C.aCc];omega)]at this;rw[zAB (by rw[C.aCc];omega)];exact congrArg some this.symm
 ·rw[zAN (by rw[aC5];omega),zAN (by rw[C.aCc];omega)]
structure VI(w wv:World)(tgv:TgF)(Bb Mb Cb Wb n:Nat)(us:List Value)(v K j:Nat)(A:Option Addr)(c:Nat)(wr:World)(tg:TgF):Prop where
 bu:∃vc,BAt wr w.heap.size Bb Mb tg vc (C.inB (K+j))
 row:wr.heap[Cb]? =some (.cells (#[.pointer (some ⟨Bb,0,none⟩)]++(us.set v (.slice A j c)).toArray ++ #[.slice (some ⟨Wb,0,none⟩) n n]) 73 (0,0))
 tC:tg Cb=none
 keep:∀x,x<wv.heap.size->tgv x=none->x≠Cb->tg x=none/\wr.heap[x]? =wv.heap[x]?
 own:OwnAt wr 3 1 (.slice A j c) j (siv (C.aAz K j))
 new:∀g,(Value.slice A j c).ownBlock=some g->wv.heap.size<=g/\tg g=none
 bl:Below w.heap.size w wr
 sz:wv.heap.size<=wr.heap.size
section
variable {w wv wr : World} {tgv tg : TgF} {Bb Mb Cb Wb n v K j c : Nat} {us : List Value} {A : Option Addr}
theorem VI.drew(h:VI w wv tgv Bb Mb Cb Wb n us v K j A c wr tg):VI w wv tgv Bb Mb Cb Wb n us v K j A c wr.drew tg:=by
 obtain⟨vc,hb⟩:=h.bu;exact⟨⟨vc,hb.dr ((Dr.refl _).drew)⟩,h.row,h.tC,h.keep,h.own.same fun _ _=>rfl,h.new,h.bl.drew,h.sz⟩
theorem VI.step(h:VI w wv tgv Bb Mb Cb Wb n us v K j A c wr tg)(hC:Cb<wv.heap.size)(hwC:w.heap.size<=Cb)(hv:v<us.length)(hul:us.length=4){w1 w2:World}{tg1:TgF}{v1:Value}(k1:BAt w1 w.heap.size Bb Mb tg1 v1 (C.inB (K+j+1)))(k2:Up w.heap.size tg wr tg1 w1){x:Value}{E:TypeId}{A':Option Addr}{c':Nat}
 (hown:OwnAt w2 3 1 (.slice A' (j+1) c') (j+1) (siv (C.aAz K j)++ [.int .i64 ((K+2+j:Nat):Int)])) (hgr:(w1.alloc (.cells #[x] E)).grownBy w2 (Value.slice A j c).ownBlock) (hat:(Value.slice A' (j+1) c').ownBlock=(Value.slice A j c).ownBlock\/(Value.slice A' (j+1) c').ownBlock=some (w1.heap.size+1)):
 VI w wv tgv Bb Mb Cb Wb n us v K (j+1) A' c' (w2.setCell ⟨Cb,1+v,none⟩ (.slice A' (j+1) c')) tg1:=by
 have hsz1:(w1.alloc (.cells #[x] E)).heap.size=w1.heap.size+1:=by simp
 have hs1:=k2.un.size;have hs2:=hgr.size;have hsz:=h.sz;have hC1:Cb<wr.heap.size:=by omega
 have hnew1:∀g,(Value.slice A j c).ownBlock=some g->tg1 g=none:=fun g hg=>(k2.un.no g (by have:=h.own.lt g hg;omega) (h.new g hg).2).1
 have hk:∀y,y<w1.heap.size->(Value.slice A j c).ownBlock≠some y->w2.heap[y]? =w1.heap[y]? :=fun y hy hne=>(hgr.block y (by omega) fun e=>hne e.symm).trans (Below.heap_alloc w1 _ y hy)
 have hCown:(Value.slice A j c).ownBlock≠some Cb:=fun e=>by have:=(h.new Cb e).1;omega
 have hk3:∀y,y≠Cb->(w2.setCell ⟨Cb,1+v,none⟩ (.slice A' (j+1) c')).heap[y]? =w2.heap[y]? :=fun y hy=>Below.heap_setCell w2 ⟨Cb,1+v,none⟩ _ y hy
 have hCk:=k2.un.no Cb hC1 h.tC;have hrow2:w2.heap[Cb]? =some (.cells (#[.pointer (some ⟨Bb,0,none⟩)]++(us.set v (.slice A j c)).toArray ++ #[.slice (some ⟨Wb,0,none⟩) n n]) 73 (0,0)):=(hk Cb (by omega) hCown).trans (hCk.2.trans h.row);have hCown':(Value.slice A' (j+1) c').ownBlock≠some Cb:=fun e=>by
  rcases hat with q | q
  ·rw[q]at e;exact hCown e
  ·rw[q]at e;have:=zAH e;omega
 refine⟨⟨v1,?_⟩,?_,hCk.1,fun y hy hn hne=>?_,?_,fun g hg=>?_,?_,?_⟩
 ·rw[<-Nat.add_assoc];refine k1.frame (by rw[aAf];omega) fun y t ht=>?_
  have hyne:y≠Cb:=fun e=>by subst e;rw[hCk.1]at ht;cases ht
  exact(hk3 y hyne).trans (hk y (k1.lt y t ht).2 fun e=>by rw[hnew1 y e]at ht;cases ht)
 ·rw[heap_setCell_same w2 Cb (1+v) _ _ _ hrow2]
  congr 1
  congr 1
  apply Array.ext_getElem?;intro i;rw[Array.getElem?_setIfInBounds];simp only[Array.getElem?_append,List.size_toArray,List.length_cons,List.length_nil,zBC,zAV,List.getElem?_set,hul,Array.size_append]
  by_cases e:1+v=i
  ·subst e;rw[if_pos rfl,if_pos (by omega),if_pos (by omega),if_neg (by omega)];simp[hul];omega
  ·rw[if_neg e]
   by_cases e1:i<0+1+4
   ·rw[if_pos e1,if_pos e1]
    by_cases e2:i<0+1
    ·rw[if_pos e2,if_pos e2]
    ·rw[if_neg e2,if_neg e2];have:¬v=i- (0+1):=by omega
     simp only[this,if_false]
   ·rw[if_neg e1,if_neg e1]
 ·obtain⟨q1,q2⟩:=h.keep y hy hn hne;obtain⟨q3,q4⟩:=k2.un.no y (by omega) q1;exact⟨q3,(hk3 y hne).trans ((hk y (by omega) fun e=>by have:=(h.new y e).1;omega).trans (q4.trans q2))⟩
 ·rw[aUh,aEl];exact hown.setCell (p:=⟨Cb,1+v,none⟩) hCown' _
 ·rcases hat with q | q
  ·rw[q]at hg;exact⟨(h.new g hg).1,hnew1 g hg⟩
  ·rw[q]at hg;obtain rfl:=zAH hg;exact⟨by omega,k1.none_ (by omega)⟩
 ·have hb1:Below w.heap.size w w1:=h.bl.trans k2.bl;have hb2:Below w.heap.size w w2:=(hb1.alloc hb1.size _).grown hgr (by have:=hb1.size;omega) (fun g hg=>by have:=(h.new g hg).1;omega);exact hb2.setCell (p:=⟨Cb,1+v,none⟩) hwC _
 ·rw[aAf];omega
theorem CtAt.neCW{w:World}{tg:TgF}{Cb Bb Wb n:Nat}{vars words:List (List Int)}(h:CtAt w tg Cb Bb Wb n vars words):Cb≠Wb:=fun e=>by
 obtain⟨us,_,r1,_⟩:=h.row;obtain⟨vs,_,r2,_⟩:=h.wrow;rw[e,r2]at r1;injection r1 with r1
 injection r1 with _ q _
 exact absurd q (by decide)
theorem VI.start{vc:Value}{vars words:List (List Int)}(hb:BAt wr w.heap.size Bb Mb tg vc (C.inB K))(hct:CtAt wr tg Cb Bb Wb n vars words)(hl:us.length=4)(hr:wr.heap[Cb]? =some (.cells (#[.pointer (some ⟨Bb,0,none⟩)]++ us.toArray ++ #[.slice (some ⟨Wb,0,none⟩) n n]) 73 (0,0)))(hu:us[v]? =some (.slice none 0 0))(hbl:Below w.heap.size w wr):
 VI w wr tg Bb Mb Cb Wb n us v K 0 none 0 wr tg:=by
 refine⟨⟨vc,hb⟩,?_,hct.tC,fun x _ hn _=>⟨hn,rfl⟩,OwnAt.nil_ _ _ _,fun g hg=>(by cases hg),hbl,zBJ _⟩;have:us.set v (.slice none 0 0)=us:=by
  obtain⟨h1,h2⟩:=zAA.1 hu;rw[<-h2,List.set_getElem_self]
 rw[this];exact hr
theorem VI.word(h:VI w wv tgv Bb Mb Cb Wb n us v K j A c wr tg){T:TypeId}{cs:Array Value}(hT:T≠3)(hC:wv.heap[Cb]? =some (.cells cs T (0,0))){u:Value}{l:List Int}(hw:WdV wv tgv u l):WdV wr tg u l:=by
 obtain⟨A',c',e,q⟩:=hw;refine⟨A',c',e,?_⟩;have hk:∀g,(Value.slice A' l.length c').ownBlock=some g->tg g=none/\wr.heap[g]? =wv.heap[g]? :=fun g hg=>h.keep g (q.1.lt g hg) (q.2 g hg) fun e=>by subst e;exact q.neW hT hC hg
 exact⟨q.1.same fun g hg=>(hk g hg).2,fun g hg=>(hk g hg).1⟩
theorem VI.fin{vars words:List (List Int)}(h:VI w wv tgv Bb Mb Cb Wb n us v K j A c wr tg)(hct:CtAt wv tgv Cb Bb Wb n vars words)(hl:us.length=4)(hv:v<4)(hvl:vars.length=4)
 (hr:wv.heap[Cb]? =some (.cells (#[.pointer (some ⟨Bb,0,none⟩)]++ us.toArray ++ #[.slice (some ⟨Wb,0,none⟩) n n]) 73 (0,0))) (hk:∀(i:Nat) (l:List Int),vars[i]? =some l->∃u:Value,us[i]? =some u/\WdV wv tgv u l):
 CtAt wr tg Cb Bb Wb n (vars.set v (C.aAz K j)) words:=by
 have hne:=hct.neCW;obtain⟨vs,l2,r2,k2⟩:=hct.wrow;have hW:=h.keep Wb hct.ltW hct.tW hne.symm;refine⟨⟨us.set v (.slice A j c),by simp[hl],h.row,fun i l hi=>?_⟩,⟨vs,l2,hW.2.trans r2,fun i l hi=>?_⟩,h.tC,hW.1⟩
 ·rw[List.getElem?_set]at hi;rw[List.getElem?_set];split at hi
  ·rename_i e;subst e;split at hi
   ·obtain rfl:=zAH hi;refine⟨_,by rw[if_pos rfl,if_pos (by omega)],A,c,by rw[aJa],?_,?_⟩
    ·rw[aJa];exact h.own
    ·rw[aJa];exact fun g hg=>(h.new g hg).2
   ·cases hi
  ·rename_i e;obtain⟨u,e1,q⟩:=hk i l hi;exact⟨u,by rw[if_neg e];exact e1,h.word (by decide) hr q⟩
 ·obtain⟨u,e1,q⟩:=k2 i l hi;exact⟨u,e1,h.word (by decide) hr q⟩
end
def emB:C.Bd:=⟨0, [], [],false, []⟩
def emT(Bb Mb:Nat):TgF:=fun x=>if x=Bb then some .st else if x=Mb then some .wat else none
theorem em_at{w X:World}(hX:X=(w.alloc (.map #[] 0)).alloc (.cells #[.int .i64 0, .slice none 0 0, .map (some w.heap.size), .bool false] 76)):BAt X w.heap.size (w.heap.size+1) w.heap.size (emT (w.heap.size+1) w.heap.size) (.slice none 0 0) emB:=by
 have hs:X.heap.size=w.heap.size+2:=by rw[hX];simp
 have h1:X.heap[w.heap.size+1]? =some (.cells #[.int .i64 0, .slice none 0 0, .map (some w.heap.size), .bool false] 76 (0,0)):=by rw[hX];exact aC2 w _ _
 have e1:emT (w.heap.size+1) w.heap.size (w.heap.size+1)=some .st:=by unfold emT;rw[if_pos rfl]
 have e2:emT (w.heap.size+1) w.heap.size w.heap.size=some .wat:=by unfold emT;rw[if_neg (by omega),if_pos rfl]
 have hm:MapAt prog 220 gaV GaE X w.heap.size ([]:List (C.Gate×Int)):=by
  have:=MapAt.made (P:=prog) (kt:=220) (ek:=gaV) (R:=GaE) w;exact this.keep (by rw[hX];exact Below.heap_alloc _ _ _ (by simp)) (fun _ _ _ h=>h)
 refine⟨⟨h1,e1⟩,⟨[],⟨OwnAt.nil_ _ _ _,fun g hg=>by cases hg⟩,rfl,fun k c hc=>(by simp[emB]at hc)⟩,hm,e2,fun x t hx=>?_,⟨by decide,by decide,fun p hp=>(by cases hp),List.nodup_nil,fun c hc=>(by cases hc)⟩⟩;unfold emT at hx;split at hx
 ·omega
 ·split at hx
  ·omega
  ·cases hx
theorem bB2(w:World):Calls prog 67 #[] w fun e w'=>∃Bb Mb tg vc,e= .returned (.pointer (some ⟨Bb,0,none⟩))/\BAt w' w.heap.size Bb Mb tg vc (C.inB 0)/\Below w.heap.size w w':=by
 obtain⟨X,hX⟩:∃X,X=(w.alloc (.map #[] 0)).alloc (.cells #[.int .i64 0, .slice none 0 0, .map (some w.heap.size), .bool false] 76):=⟨_,rfl⟩;have h0:=em_at hX;have hb0:Below w.heap.size w X:=by rw[hX];exact(al0).alloc (by simp) _
 have hmk:=fun W=>aFo (P:=prog) underlying74 W
 have HF:=kH (aGv h0 (fun _=>true));have H0:=kH hb0;have HX:=kH hX;have Hfr:=kH (show C.fresh (fun _=>true) emB=(1,⟨1, [], [],false, [fun _=>true]⟩)from rfl);clear h0 hb0 hX
 go_enter func67,ntmps67
 go_upto_region 2 with(fail)
 rw[<-HX.out];rw[Hfr.out]at HF;clear HX hmk
 go_wp2_with fail
 refine HF.out.mono ?_;rintro e w2 ⟨rfl,tg2,v2,b2,u2⟩;obtain⟨w3,hw3⟩:∃w3,w3=w2.alloc (.cells #[.int .i64 1] 3):=⟨_,rfl⟩;have hb3:Below w2.heap.size w2 w3:=by rw[hw3];exact al0
 have hC:=aGb (b2.below hb3) (A:=some ⟨w2.heap.size,0,none⟩) (cap:=1) (c:= [1]) (by rw[hw3];exact OwnAt.of_new w2 #[.int .i64 1] 1 (by simp) (by decide)) (fun g hg=>by
  have e:w2.heap.size=g:=by simpa[Value.ownBlock]using hg
  subst e;exact⟨zBK H0.out.size u2.bl.size,b2.none_ (zBJ _)⟩) (by decide)
 simp only[List.length_cons,List.length_nil,zBH]at hC;have HC:=kH hC;have Hu:=kH (H0.out.trans (u2.bl.trans (hb3.mono (zBK H0.out.size u2.bl.size))));clear b2 u2 hb3 HF hC
 go_wp2_with fail
 rw[<-hw3];refine HC.out.mono ?_;rintro e w4 ⟨rfl,tg4,v4,b4,q4,_⟩;have Hf:=kH (And.intro b4 q4);clear b4 q4 HC hw3;go_wp2;go_ret;exact⟨_,_,tg4,v4,rfl,Hf.out.1,Hu.out.trans Hf.out.2⟩
end
section
theorem aOw(l:List Int)(o:List Bool)(f:List Bool->Int->List Bool)(hf:∀o a,(f o a).length=o.length):(l.foldl f o).length=o.length:=by
 induction l generalizing o with
 | nil=>rfl
 | cons a l ih=>rw[List.foldl_cons,ih,hf]
theorem aZj(p:List T.Nd):(R.need p).length=p.length:=by
 have h1:∀(o:List Bool) (k:Nat),(R.need1 p o k).length=o.length:=fun o k=>by
  unfold R.need1;exact aOw _ _ _ fun o a=>by simp
 have h2:∀(l:List Nat) (o:List Bool),(l.foldl (R.need1 p) o).length=o.length:=by
  intro l;induction l with
  | nil=>intro o;rfl
  | cons k l ih=>intro o;rw[List.foldl_cons,ih,h1]
 unfold R.need;rw[h2];simp
structure WsB(t:List T.Nd)(s:List (List Int)×C.Bd)(k:Nat):Prop where
 len:s.1.length=t.length
 bo:C.Bo s.2
 ws:s.2.full=false->∀i,i<k->(R.need t).getD i false=true->C.Wb (s.1.getD i [])/\((s.1.getD i []).length:Int)=(t.getD i default).w
 nil:∀i,k<=i->s.1.getD i []= []
theorem aNz{t:List T.Nd}{k:Nat}(h:k<t.length):t[k]? =some (t.getD k default):=by
 rw[List.getD,zAB h];rfl
theorem WsB.kind{t:List T.Nd}{s:List (List Int)×C.Bd}{k:Nat}(h:WsB t s k)(ht:C.Tm t)(hk:k<t.length)(hn:(R.need t).getD k false=true)(hf:s.2.full=false):
 NdK s.1 (t.getD k default)/\(∀a∈(t.getD k default).args,C.Wb (s.1.getD a.toNat []))/\(∀a∈(t.getD k default).args,0<=a/\a<(k:Int))/\1<=(t.getD k default).w/\(t.getD k default).w<=32:=by
 have hx:=aNz hk;have hs:=ht.sh k _ hx;have h6:=T.aAo hs;have hargs:∀a∈(t.getD k default).args,C.Wb (s.1.getD a.toNat [])/\((s.1.getD a.toNat []).length:Int)=(t.getD a.toNat default).w/\1<=(t.getD a.toNat default).w/\(t.getD a.toNat default).w<=32:=fun a ha=>by
  have hb:=h6.2.2.2.2.2 a ha;obtain⟨w1,w2⟩:=h.ws hf a.toNat (by omega) (ht.need hn hx ha);have ha2:=T.aAo (ht.sh a.toNat _ (aNz (t:=t) (k:=a.toNat) (by omega)));exact⟨w1,w2,ha2.2.2.1,ha2.2.2.2.1⟩
 exact⟨bFa hs (ht.ty k _ hx) fun a ha=>(hargs a ha).2,fun a ha=>(hargs a ha).1,h6.2.2.2.2.2,h6.2.2.1,h6.2.2.2.1⟩
theorem WsB.step{t:List T.Nd}{vars:List (List Int)}{s:List (List Int)×C.Bd}{k:Nat}(h:WsB t s k)(ht:C.Tm t)(hv:∀x∈t,x.op=33->C.Wb (vars.getD x.imm.toNat [])/\(vars.getD x.imm.toNat []).length=x.w.toNat)(hk:k<t.length):WsB t (C.stepW vars t s k) (k+1):=by
 by_cases hn:(R.need t).getD k false=true/\s.2.full=false
 ·have hst:C.stepW vars t s k=(s.1.set k (C.node vars s.1 (t.getD k default) s.2).1,(C.node vars s.1 (t.getD k default) s.2).2):=by
   unfold C.stepW;rw[if_pos hn]
  rw[hst];obtain⟨k1,k2,k3,k4,k5⟩:=h.kind ht hk hn.1 hn.2;have hb:=bD5 k1 ⟨k4,k5⟩ h.bo k2 (hv _ (zAC (aNz hk)));refine⟨by simp[h.len],hb.b,fun hf i hi hni=>?_,fun i hi=>?_⟩
  ·show C.Wb ((s.1.set k _).getD i [])/\(((s.1.set k _).getD i []).length:Int)=_
   rw[C.getD_setL]
   by_cases e:k=i
   ·subst e;rw[if_pos ⟨rfl,by rw[h.len];exact hk⟩];exact⟨hb.w,by rw[hb.l];omega⟩
   ·rw[if_neg (fun q=>e q.1)];exact h.ws hn.2 i (by omega) hni
  ·show(s.1.set k _).getD i []= []
   rw[C.getD_setL,if_neg (fun q=>by omega)];exact h.nil i (by omega)
 ·have hst:C.stepW vars t s k=s:=by unfold C.stepW;rw[if_neg hn]
  rw[hst];refine⟨h.len,h.bo,fun hf i hi hni=>?_,fun i hi=>h.nil i (by omega)⟩
  by_cases e:i=k
  ·subst e;exact absurd ⟨hni,hf⟩ hn
  ·exact h.ws hf i (by omega) hni
theorem WsB.zero(t:List T.Nd){b:C.Bd}(hb:C.Bo b)(vars:List (List Int)):WsB t (C.aAu vars t b 0) 0:=by
 refine⟨by simp[C.aAu],hb,fun _ i hi=>by omega,fun i _=>?_⟩
 show(List.replicate t.length ([]:List Int)).getD i []= []
 simp only[List.getD,List.getElem?_replicate];split <;> rfl
theorem bFb{K:Nat}(h:K<=3999):C.Bo (C.inB K):=by
 refine⟨by show K+1<=4000;omega,by show 1<=23999;decide,fun p hp=>(by cases hp),List.nodup_nil,fun c hc=>?_⟩;have:c∈ [[(1:Int)]]:=hc;rw[zBD.1 this];decide
theorem aZk{K w:Nat}(h:K+w+1<=4000):C.Wb (C.aAz K w):=fun l hl=>by
 obtain⟨j,hj,rfl⟩:=zBU.1 hl;rw[zBR]at hj;unfold C.Ib;omega
theorem aZl{t:List T.Nd}(ht:C.Tm t)(hcl:T.aAw t=false):∀x∈t,x.op=33->C.Wb ((C.aAj (T.aAa t) 0).getD x.imm.toNat [])/\((C.aAj (T.aAa t) 0).getD x.imm.toNat []).length=x.w.toNat:=fun x hx h33=>by
 obtain⟨i,hi⟩:=zAG hx;have him:=T.aAo (ht.sh i x hi);have him2:x.imm<4:=by
  have:=him.2.2.2.2.1;unfold T.immOk at this;rw[if_neg (by omega),if_pos h33]at this;simpa using this
 have hx0:=ht.im x hx;have hwl:=T.aA9 t;have hv4:x.imm.toNat<(T.aAa t).length:=by omega
 have hwa:=T.aHt hcl ht.im hi h33 him2;have hwd:(T.aAa t).getD x.imm.toNat 0=x.w:=by rw[List.getD,hwa];rfl
 have htt:=C.aCp (T.aAa t) x.imm.toNat hv4;rw[hwd]at htt;have hsm:=C.aCt ht;rw[C.aC6 _ _ _ hv4,hwd,zBH];exact⟨aZk (by omega),by simp[C.aAz]⟩
theorem aPv(l:List Int)(b:C.Bd):(C.clause l b).n=b.n:=by unfold C.clause;split <;> rfl
theorem bB3(f:C.E->Bool)(b:C.Bd):b.n<=(C.fresh f b).2.n:=by
 unfold C.fresh;split
 ·exact zBJ _
 ·exact Nat.le_succ _
theorem aXh{t:List T.Nd}{c:C.Circ}(h:C.build t=some c):1<=c.root/\c.root<=(c.b.n:Int)+1:=by
 unfold C.build at h;split at h
 ·cases h
 split at h
 ·cases h
 ·rename_i h1 h2;have hc:=(zAH h).symm;have hmono:∀(ws:List Int) (b:C.Bd) (i:Nat),b.n<=(C.aBs ws b i).n:=by
   intro ws b i;induction i with
   | zero=>exact zBJ _
   | succ i ih=>
    refine zBK ih ?_
    show _<=(C.copy1 _ _).n
    generalize C.aBs ws b i=b';unfold C.copy1;rw[aPv,aPv];exact bB3 _ _
  subst hc;refine⟨by show 1<=((C.words t).2.n:Int)+1;omega,?_⟩
  show((C.words t).2.n:Int)+1<=_
  show((C.words t).2.n:Int)+1<=((C.aBs ((C.words t).1.getD (t.length-1) []) (C.words t).2 ((C.words t).1.getD (t.length-1) []).length).n:Int)+1
  have:=hmono ((C.words t).1.getD (t.length-1) []) (C.words t).2 ((C.words t).1.getD (t.length-1) []).length;omega
end
end Go.Proofs.YtchdbhggbdcapaaGreat
