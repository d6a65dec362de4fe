/- Part. -/
import Derived.Test.YtchdbhggbdcapaaGreatSuLX
import Derived.Test.YtchdbhggbdcapaaGreatSu00
import Derived.Deep.Fields
import Derived.Deep.LoopGhost
import Derived.Deep.RegionHeld3
import Derived.OpenShut
import Derived.ProofKit
import Derived.BigGuardPart
import Derived.Laws.CopyOwn
import Derived.OneCell
import Derived.RangeFuncCalls
set_option linter.unusedVariables false
set_option linter.unusedSimpArgs false
set_option maxRecDepth 100000
set_option maxHeartbeats 16000000
section
section
namespace Go.Proofs.YtchdbhggbdcapaaGreat.K
theorem aFl{α:Type}{xs:List α}{k:Nat}{x:α}(h:xs[k]? =some x):xs.take (k+1)=xs.take k ++ [x]:=by
 rw[List.take_add_one,h];rfl
end Go.Proofs.YtchdbhggbdcapaaGreat.K
end
section
namespace Go.Proofs.YtchdbhggbdcapaaGreat
open _root_.Go.Proofs.Tryz
open Go.ChangeShapes Go.WideShapes Go.ChangeAt Go.RowKit Go.Deep
section
variable {H : Type} {enc : TypeId × Value -> H} {P : Program} {W : World}
def aG3{α:Type}(enc:TypeId×Value->H)(P:Program)(W:World)(t:TypeId)(R:World->Value->α->Prop):Prop:=
 ∀n u x,DataW.trod enc P W 0 (fun _=>true) true n t [u]=some x->∃a,R W u a
theorem aQ3{t:TypeId}{q:IntKind}(ht:P.underlying t=some (.int q)):aG3 enc P W t (IntR q):=by
 intro n u x h;obtain⟨m,e,_,_⟩:=DataW.trod_int ht h;exact⟨m,(List.cons.inj e).1⟩
theorem aJk{α:Type} [Inhabited α]{R:World->Value->α->Prop}{t e:TypeId}(ht:P.underlying t=some (.slice e))(hc:P.cellsOf e=1)(hR:aG3 enc P W e R){n:Nat}{u:Value}{x:DataW H×List MemPlace}
 (h:DataW.trod enc P W 0 (fun _=>true) true n t [u]=some x):∃A m c xs,u= .slice A m c/\SlAt R W A m xs:=by
 rcases open_slice1 ht hc h with⟨e1,_⟩ |⟨a,len,cap,m,k,V,D,Pl,e1,_,hl,hm,hmm,_,hV⟩
 ·exact⟨none,0,0, [],by simpa using e1,SlAt.nil_ _⟩
 ·simp at hmm;subst hmm;obtain⟨X,hX⟩:=choose_lt (α:=α) (p:=fun i y=>R W (V i) y) (n:=m) (fun i hi=>hR k (V i) _ (hV i hi).2);refine⟨some a,len,m,(List.range len).map X,by simpa using e1,by simp,?_,fun j y hy=>?_⟩
  ·simp only[maxLen]at hm;omega
  ·have hj:j<len:=by
    have:=(zAA.1 hy).1;simpa using this
   have hy':y=X j:=by simpa[hj]using hy.symm
   obtain⟨b,off,spot⟩:=a;have h0:spot=none:=World.cell?_spot (v:=V 0) (by simpa[Addr.add]using(hV 0 (by omega)).1);subst h0;have hcell:=(hV j (by omega)).1;rw[add_plain]at hcell;exact⟨b,off,V j,rfl,World.block_lt_of_cell? _ _ hcell,hcell,by rw[hy'];exact hX j (by omega)⟩
theorem aUy{α:Type} [Inhabited α]{R:World->Value->α->Prop}{t e:TypeId}(ht:P.underlying t=some (.slice e))(hc:P.cellsOf e=1)(hR:aG3 enc P W e R):aG3 enc P W t (SlR R):=by
 intro n u x h;obtain⟨A,m,c,xs,rfl,hs⟩:=aJk ht hc hR h;obtain rfl:=hs.len;exact⟨xs,SlR.mk_ hs⟩
theorem aJl(hl:laidOutB P=true){W':World}(hb:Below W.heap.size W W'){sp:Nat->Bool}:∀{ts:List TypeId} {vs:List Value} {ds:List (DataW H)} {ps:List MemPlace},
 (ts.all fun t=>P.readableRec t && decide (t<P.types.size))=true->DataW.TrodAll enc P W 0 (fun _=>true) true ts vs ds ps->(∀x∈ps,x.block<W.heap.size)->(∀x∈ps,sp x.block=true)->DataW.TrodAll enc P W' 0 sp true ts vs ds ps
 | [],vs,ds,ps,_,h,_,_=>by
  obtain⟨rfl,rfl,rfl⟩:=trodAll_nil h;exact trodAll_mk0
 | t :: ts,vs,ds,ps,hr,h,hlt,hsp=>by
  obtain⟨v,vs',d,ds',p,q,rfl,rfl,rfl,h1,h2⟩:=trodAll_cons h;simp only[List.all_cons,Bool.and_eq_true,zBQ]at hr;exact trodAll_cons_mk (WideElems.Trod_stays hl hr.1.1 hr.1.2 h1 (fun x hx=>hb.same (hlt x (zAO _ hx))) (fun x hx=>hsp x (zAO _ hx)))
   (aJl hl hb hr.2 h2 (fun x hx=>hlt x (zAP _ hx)) (fun x hx=>hsp x (zAP _ hx)))
theorem aFa{f:Func}{s:ChangeSpec}{W':World}{args:Array Value}{ds gs:List (DataW H)}{before:List MemPlace}{tb:TypeId}{apart fresh handsOn:Bool}(hl:laidOutB P=true)(hv:s.vars= [])
 (hr:(f.params.toList.all fun t=>P.readableRec t && decide (t<P.types.size))=true)
 (hW:DataW.Whole enc P f.params.toList s.vars apart W args.toList ds gs before) (hs:s.fn H (ds ++ gs)={results:= [.lit (.bool true)],args:=ds}) (hrt:f.resultTypes= #[tb]) (htb:P.underlying tb=some .bool)
 (hb:Below W.heap.size W W'):s.post enc P f apart fresh handsOn false W args (.bool true) W':=by
 have hW':=hW;obtain⟨p,q,hA,hV,rfl,hfz,hnd⟩:=hW;rw[hv]at hV;obtain⟨rfl,rfl⟩:=trodVars_none hV;have hlt:∀x∈p,x.block<W.heap.size:=fun x hx=>by have:=hW'.lt x (by simpa using hx);exact this
 refine⟨ds, [],p ++ [], [],p, [],hW',?_,?_,?_,hb.frame _,fun h=>by cases h⟩
 ·rw[hs,hrt];exact trodAll_cons_mk (shut_bool htb _) trodAll_mk0
 ·rw[hs];exact aJl hl hb hr hA hlt (fun x hx=>by simpa using hlt x hx)
 ·rw[hv,hs];rfl
end
end Go.Proofs.YtchdbhggbdcapaaGreat
end
section
namespace Go.Proofs.YtchdbhggbdcapaaGreat
open _root_.Go.Proofs.Tryz
open Go.ChangeShapes Go.WideShapes Go.ChangeAt Go.RowKit Go.Deep
def StAt{α:Type}(s:Nat)(R:World->List Value->α->Prop)(w:World)(A:Option Addr)(n:Nat)(xs:List α):Prop:=
 xs.length=n/\n<=9223372036854775807/\∀k x,xs[k]? =some x->∃b off us,A=some ⟨b,off,none⟩/\b<w.heap.size/\us.length=s/\(∀j u,us[j]? =some u->w.cell? ⟨b,off+k*s+j,none⟩=some u)/\R w us x
def MonoL{α:Type}(R:World->List Value->α->Prop):Prop:=∀w w' us x,Below w.heap.size w w'->R w us x->R w' us x
section
variable {α : Type} {s : Nat} {R : World -> List Value -> α -> Prop} {w w' : World} {A : Option Addr} {n : Nat} {xs : List α}
theorem StAt.len(h:StAt s R w A n xs):xs.length=n:=h.1
theorem StAt.le(h:StAt s R w A n xs):n<=9223372036854775807:=h.2.1
theorem StAt.at_(h:StAt s R w A n xs){k:Nat}(hk:k<n):∃x b off us,xs[k]? =some x/\A=some ⟨b,off,none⟩/\b<w.heap.size/\us.length=s/\(∀j u,us[j]? =some u->w.cell? ⟨b,off+k*s+j,none⟩=some u)/\R w us x:=by
 obtain⟨h1,_,h2⟩:=h;have hl:k<xs.length:=by omega
 obtain⟨b,off,us,r⟩:=h2 k xs[k] (zAB hl);exact⟨_,b,off,us,zAB hl,r⟩
theorem StAt.below(hR:MonoL R)(h:StAt s R w A n xs)(hb:Below w.heap.size w w'):StAt s R w' A n xs:=by
 refine⟨h.1,h.2.1,fun k x hx=>?_⟩;obtain⟨b,off,us,hA,hlt,hs,hc,hr⟩:=h.2.2 k x hx;exact⟨b,off,us,hA,zAL hlt hb.size,hs,fun j u hu=>(hb.cell (p:=⟨b,off+k*s+j,none⟩) hlt).trans (hc j u hu),hR _ _ _ _ hb hr⟩
theorem StAt.nil_(A:Option Addr):StAt s R w A 0 ([]:List α):=⟨rfl,by omega,fun k x h=>by simp at h⟩
end
section
variable {H : Type} {enc : TypeId × Value -> H} {P : Program} {W : World}
def aOh{α:Type}(enc:TypeId×Value->H)(P:Program)(W:World)(fs:Array Field)(R:World->List Value->α->Prop):Prop:=
 ∀n (us:List Value),us.length=fs.size->(∀(j:Nat) (f:Field),fs[j]? =some f->∃u y,us[j]? =some u/\DataW.trod enc P W 0 (fun _=>true) true n f.type [u]=some y)->∃a,R W us a
theorem aQc{α:Type} [Inhabited α]{R:World->List Value->α->Prop}{t e:TypeId}{fs:Array Field}(ht:P.underlying t=some (.slice e))(he:P.underlying e=some (.struct fs))
 (hone:oneCellFields P fs=true) (hC:P.cellsOf e=fs.size) (hs0:0<fs.size) (hR:aOh enc P W fs R) {n:Nat} {u:Value} {x:DataW H×List MemPlace}
 (h:DataW.trod enc P W 0 (fun _=>true) true n t [u]=some x):∃A m c xs,u= .slice A m c/\StAt fs.size R W A m xs:=by
 rcases open_slice ht h with⟨e1,_⟩ |⟨a,len,cap,m,k,D,Pl,e1,_,hl,hm,hmm,_,hV⟩
 ·exact⟨none,0,0, [],by simpa using e1,StAt.nil_ _⟩
 ·simp at hmm;subst hmm;have each:∀i,i<m->∃q:α×List Value,q.2.length=fs.size/\(∀j v,q.2[j]? =some v->W.cell? (a.add (i*fs.size+j))=some v)/\R W q.2 q.1:=by
   intro i hi;obtain⟨cs',hc,ht'⟩:=hV i hi;rw[hC]at hc;obtain⟨ys,n',hn',hy,hlen,hyl,hf⟩:=DataW.trod_struct he ht';obtain⟨_,hcl,hat⟩:=World.cells?_some hc;obtain⟨y,hy'⟩:=hR n' cs' hcl (fun j f hj=>by
    obtain⟨ho,hk⟩:=hone_of hone j f hj;have hjl:j<fs.size:=(gA hj).1;have h1:=hf j f hj;rw[ho,hk]at h1;have hone':(cs'.drop j).take 1= [cs'[j]'(by omega)]:=by
     rw[List.drop_eq_getElem_cons (by omega)];rfl
    rw[hone']at h1;exact⟨_,_,zAB (by omega),h1.trans (zAB (by omega))⟩)
   refine⟨(y,cs'),hcl,fun j v hv=>?_,hy'⟩;have hj:j<fs.size:=by have:=(zAA.1 hv).1;simp at this;omega
   rw[<-Go.Deep.add_add,hat j hj];exact hv
  obtain⟨q,hq⟩:=choose_lt each;refine⟨some a,len,m,(List.range len).map fun i=>(q i).1,by simpa using e1,by simp,?_,fun j y hy=>?_⟩
  ·simp only[maxLen]at hm;omega
  ·have hj:j<len:=by
    have:=(zAA.1 hy).1;simpa using this
   have hy':y=(q j).1:=by simpa[hj]using hy.symm
   obtain⟨b,off,spot⟩:=a;obtain⟨h1,h2,h3⟩:=hq j (by omega);have hv:(q j).2[0]? =some ((q j).2[0]'(by omega)):=zAB (by omega);have hc0:=h2 0 _ hv;have h0:spot=none:=by
    obtain⟨g1,g2,_⟩:=hq 0 (by omega);have hv0:(q 0).2[0]? =some ((q 0).2[0]'(by omega)):=zAB (by omega);have:=World.cell?_spot (g2 0 _ hv0);simpa[Addr.add]using this
   subst h0;rw[add_plain]at hc0;refine⟨b,off,(q j).2,rfl,World.block_lt_of_cell? _ _ hc0,h1,fun i v hv=>?_,by rw[hy'];exact h3⟩;have:=h2 i v hv;rw[add_plain,<-Nat.add_assoc]at this;exact this
theorem bDg{α:Type} [Inhabited α]{R:World->List Value->α->Prop}{r:Reach}{b0:Nat}{t e:TypeId}{fs:Array Field}{v:Value}{d:DataW H}{ps:List MemPlace}(ht:P.underlying t=some (.slice e))(he:P.underlying e=some (.struct fs))
 (hone:oneCellFields P fs=true) (hC:P.cellsOf e=fs.size) (hs0:0<fs.size) (hR:aOh enc P W fs R)
 (hval:Value.okWide P W r b0 t v) (h:DataW.Trod enc P W 0 (fun _=>true) true t v d ps):∃A m c xs,v= .slice A m c/\StAt fs.size R W A m xs:=by
 obtain⟨A,m,c,rfl⟩:=okWide_slice ht hval;obtain⟨n,hn⟩:=h;obtain⟨A',m',c',xs,e,hs⟩:=aQc ht he hone hC hs0 hR (u:= .slice A m c) (by simpa[Value.cells]using hn);cases e;exact⟨A,m,c,xs,rfl,hs⟩
end
end Go.Proofs.YtchdbhggbdcapaaGreat
end
section
namespace Go.Proofs.YtchdbhggbdcapaaGreat
open _root_.Go.Proofs.Tryz
open Go.RowKit
theorem aCb{w0 w w':World}{B:Nat}{v v':Value}{o:Obj}(hb:Below B w0 w)(hB:B<=w.heap.size)(hv:∀g,v.ownBlock=some g->B<=g)(hg:(w.alloc o).grownBy w' v.ownBlock)
 (hat:v'.ownBlock=v.ownBlock\/v'.ownBlock=some (w.heap.size+1)):Below B w0 w'/\∀g,v'.ownBlock=some g->B<=g:=by
 refine⟨(hb.alloc hB o).grown hg (by simp;omega) hv,fun g hgv=>?_⟩;rcases hat with h | h
 ·exact hv g (by rw[<-h];exact hgv)
 ·rw[h]at hgv;cases hgv;omega
theorem wpList_append_one'{P:Program}{w:World}{ops:Array Oper}{rest:List Oper}{o:Oper}{a:Act}{Q:Exit->Act->World->Prop}(hgd:o.guard=none)(sx x:Operand)(t:TypeId)
 (ho:o.op= .call {callee:= .builtin .append,args:= #[sx,x],argTypes:= #[t,t]})
 (e:TypeId) (z:Value) (bytes:Nat) (ht:P.underlying t=some (.slice e)) (hinfo:(P.info? e).map (fun i=>(i.zero,i.size,i.bytes))=some (some z,1,bytes)) (hzs:z.cells.size=1)
 (v:Value) (n:Nat) (xs:List Value) (hs:a.eval sx=v) (hown:OwnAt w e 1 v n xs) (u:Value) (h1:u.oneCell'=true) (E:TypeId) (p:Nat) (hp:p=w.heap.size)
 (hx:a.eval x= .slice (some ⟨p,0,none⟩) 1 1) (hn:n<=1000000000) (hb:bytes<=64)
 (h:∀v' w',OwnAt w' e 1 v' (n+1) (xs ++ [u])->(w.alloc (.cells #[u] E)).grownBy w' v.ownBlock->(v'.ownBlock=v.ownBlock\/v'.ownBlock=some (w.heap.size+1))->wpList P ops Q rest (a.put o.dst v') w'):
 wpList P ops Q (o :: rest) a (w.alloc (.cells #[u] E)):=by
 subst hp;exact aAk w hgd sx x t ho e z bytes ht hinfo hzs v n xs hs hown u h1 E hx hn hb h
theorem aC1:(prog.info? 45).map (fun i=>(i.zero,i.size,i.bytes))=some (some (.int .u32 0),1,4):=by kernel_rfl
theorem infoInt:(prog.info? 3).map (fun i=>(i.zero,i.size,i.bytes))=some (some (.int .i64 0),1,8):=by kernel_rfl
end Go.Proofs.YtchdbhggbdcapaaGreat
end
end
namespace Go.Proofs.YtchdbhggbdcapaaGreat
open _root_.Go.Proofs.Tryz
section
open Go.ChangeShapes Go.WideShapes Go.ChangeAt Go.RowKit Go.Deep
def WordR(_:World)(u:Value)(x:Int):Prop:=u= .int .u32 x/\0<=x/\x<4294967296
theorem aX8{H:Type}{enc:TypeId×Value->H}{P:Program}{W:World}{t:TypeId}(ht:P.underlying t=some (.int .u32)):aG3 enc P W t WordR:=by
 intro n u x h;obtain⟨m,e,_,hw⟩:=DataW.trod_int ht h;refine⟨m,(List.cons.inj e).1,?_⟩;simp[Lit.wf,IntKind.min,IntKind.max,IntKind.signed,IntKind.bits]at hw;omega
end
end Go.Proofs.YtchdbhggbdcapaaGreat
section
namespace Go.Proofs.YtchdbhggbdcapaaGreat.T
structure Nd where
 op:Int
 w:Int
 fl:Int
 args:List Int
 imm:Int
deriving DecidableEq,Inhabited
def ar(op:Int):Int:=if op=0\/op=33 then 0 else if 1<=op/\op<=14 then 2 else if op=15 then 3 else if 16<=op/\op<=18 then 1 else -1
def immOk(x:Nd):Bool:=if x.op=0 then B.isW x.w x.imm else if x.op=33 then decide (x.imm<4)else if x.op=14 then decide (x.imm<=9)else decide (x.imm=0)
def aCh(k:Nat)(l:List Int):Bool:=l.all fun a=>decide (0<=a) && decide (a<k)
def aAq(z:Bool)(k:Nat)(x:Nd):Bool:=
 decide (0<=ar x.op) && decide (1<=x.w) && decide (x.w<=32) && (!z || decide (x.fl=0)) && decide ((x.args.length:Int)=ar x.op) && immOk x && (!decide (x.op=14) || decide (x.w=1)) && aCh k x.args
def wd(t:List Nd)(x:Nd)(i:Nat):Int:=(t.getD (x.args.getD i 0).toNat default).w
def typed(t:List Nd)(x:Nd):Bool:=
 if 1<=x.op/\x.op<=13 then decide (wd t x 0=x.w) && decide (wd t x 1=x.w)
 else if x.op=14 then decide (wd t x 0=wd t x 1)
 else if x.op=15 then decide (wd t x 0=1) && decide (wd t x 1=x.w) && decide (wd t x 2=x.w)
 else if x.op=16\/x.op=17 then decide (wd t x 0<x.w)
 else if x.op=18 then decide (x.w<wd t x 0)
 else true
def clash(x y:Nd):Bool:=decide (x.op=33) && decide (y.op=33) && decide (x.imm=y.imm) && !decide (x.w=y.w)
def aAw:List Nd->Bool
 | []=>false
 | x :: t=>t.any (clash x) || aAw t
def valid(z:Bool)(t:List Nd):Int:=
 if t.length<1\/300<t.length then 3
 else if(t.zipIdx.all fun p=>aAq z p.2 p.1)=false then 1
 else if(t.all (typed t))=false then 6
 else if aAw t=true then 7 else 0
def aAa(t:List Nd):List Int:=t.foldl (fun l x=>if x.op=33 then l.set x.imm.toNat x.w else l) [0,0,0,0]
def aE4(z:Bool)(t:List Nd)(j:Nat):Prop:=∀i x,i<j->t[i]? =some x->aAq z i x=true
theorem aEg{z:Bool}{t:List Nd}:(t.zipIdx.all fun p=>aAq z p.2 p.1)=true↔∀i x,t[i]? =some x->aAq z i x=true:=by
 rw[zAD];constructor
 ·intro h i x hx;exact h (x,i) (List.mem_zipIdx_iff_getElem?.2 hx)
 ·rintro h ⟨x,i⟩ hp;exact h i x (List.mem_zipIdx_iff_getElem?.1 hp)
theorem aE4.all{z:Bool}{t:List Nd}{j:Nat}(h:aE4 z t j)(hj:t.length<=j):(t.zipIdx.all fun p=>aAq z p.2 p.1)=true:=
 aEg.2 fun i x hx=>h i x (by have:=(zAA.1 hx).1;omega) hx
theorem aE4.next{z:Bool}{t:List Nd}{j:Nat}{x:Nd}(h:aE4 z t j)(hx:t[j]? =some x)(h2:aAq z j x=true):aE4 z t (j+1):=fun i y hi hy=>by
 by_cases e:i=j
 ·subst e;rw[hx]at hy;cases hy;exact h2
 ·exact h i y (by omega) hy
theorem aM3{z:Bool}{t:List Nd}{j:Nat}{x:Nd}(hx:t[j]? =some x)(h:aAq z j x=false):(t.zipIdx.all fun p=>aAq z p.2 p.1)=false:=by
 cases e:t.zipIdx.all fun p=>aAq z p.2 p.1
 ·rfl
 ·have:=aEg.1 e j x hx;rw[h]at this;cases this
theorem aAo{z:Bool}{k:Nat}{x:Nd}(h:aAq z k x=true):(x.args.length:Int)=ar x.op/\0<=ar x.op/\1<=x.w/\x.w<=32/\immOk x=true/\∀a∈x.args,0<=a/\a<k:=by
 unfold aAq at h;simp only[Bool.and_eq_true,zBQ]at h;obtain⟨⟨⟨⟨⟨⟨⟨h1,h2⟩,h3⟩,_⟩,h5⟩,h6⟩,_⟩,h8⟩:=h;refine⟨h5,h1,h2,h3,h6,fun a ha=>?_⟩;have:=zAD.1 h8 a ha;simpa using this
def aF1(t:List Nd)(j:Nat):Prop:=∀i x,i<j->t[i]? =some x->typed t x=true
theorem aF1.all{t:List Nd}{j:Nat}(h:aF1 t j)(hj:t.length<=j):(t.all (typed t))=true:=by
 rw[zAD];intro x hx;obtain⟨i,hi⟩:=List.mem_iff_getElem?.1 hx;exact h i x (by have:=(zAA.1 hi).1;omega) hi
theorem aF1.next{t:List Nd}{j:Nat}{x:Nd}(h:aF1 t j)(hx:t[j]? =some x)(h2:typed t x=true):aF1 t (j+1):=fun i y hi hy=>by
 by_cases e:i=j
 ·subst e;rw[hx]at hy;cases hy;exact h2
 ·exact h i y (by omega) hy
theorem aO8{t:List Nd}{j:Nat}{x:Nd}(hx:t[j]? =some x)(h:typed t x=false):(t.all (typed t))=false:=by
 cases e:t.all (typed t)
 ·rfl
 ·have:=zAD.1 e x (zAC hx);rw[h]at this;cases this
theorem aB9{t:List Nd}:aAw t=false↔∀(i j:Nat) (x y:Nd),i<j->t[i]? =some x->t[j]? =some y->clash x y=false:=by
 induction t with
 | nil=>simp[aAw]
 | cons a t ih=>
  rw[aAw,Bool.or_eq_false_iff,ih];constructor
  ·rintro⟨h1,h2⟩ i j x y hij hx hy;cases j with
   | zero=>omega
   | succ j=>
    simp at hy;cases i with
    | zero=>
     simp at hx;subst hx;cases e:clash a y
     ·rfl
     ·exact absurd (List.any_eq_true.2 ⟨y,zAC hy,e⟩) (by rw[h1];simp)
    | succ i=>simp at hx;exact h2 i j x y (by omega) hx hy
  ·intro h;refine⟨?_,fun i j x y hij hx hy=>h (i+1) (j+1) x y (by omega) (by simpa using hx) (by simpa using hy)⟩;cases e:t.any (clash a)
   ·rfl
   ·obtain⟨y,hy,hc⟩:=List.any_eq_true.1 e;obtain⟨j,hj⟩:=List.mem_iff_getElem?.1 hy;have:=h 0 (j+1) a y (by omega) rfl (by simpa using hj);rw[hc]at this;cases this
theorem aCo(t:List Nd)(x:Nd):aAa (t ++ [x])=if x.op=33 then(aAa t).set x.imm.toNat x.w else aAa t:=by
 unfold aAa;rw[List.foldl_append];rfl
theorem aOi{α:Type}{P:List α->Prop}(h0:P [])(hs:∀l x,P l->P (l ++ [x]))(l:List α):P l:=by
 have h:∀r:List α,P r.reverse:=by
  intro r;induction r with
  | nil=>exact h0
  | cons a r ih=>rw[List.reverse_cons];exact hs _ _ ih
 have:=h l.reverse
 rwa [List.reverse_reverse]at this
theorem aA9(t:List Nd):(aAa t).length=4:=by
 refine aOi (P:=fun t=>(aAa t).length=4) rfl (fun t x ih=>?_) t;rw[aCo];split <;> simp[ih]
theorem aQd{t:List Nd}{y:Nd}(h:aAw (t ++ [y])=false):aAw t=false:=
 aB9.2 fun i j a b hij ha hb=>aB9.1 h i j a b hij (by rw[zAE (zAA.1 ha).1];exact ha) (by rw[zAE (zAA.1 hb).1];exact hb)
theorem aHt{t:List Nd}:aAw t=false->(∀y∈t,0<=y.imm)->∀{i:Nat} {x:Nd},t[i]? =some x->x.op=33->x.imm<4->(aAa t)[x.imm.toNat]? =some x.w:=by
 refine aOi (P:=fun t=>aAw t=false->(∀y∈t,0<=y.imm)->∀{i:Nat} {x:Nd},t[i]? =some x->x.op=33->x.imm<4->(aAa t)[x.imm.toNat]? =some x.w) (fun _ _ i x hx=>by simp at hx) (fun t y ih hc hp i x hx ho hi=>?_) t;have hl:=aA9 t;rw[aCo]
 by_cases hit:i<t.length
 ·rw[zAE hit]at hx;have h1:=ih (aQd hc) (fun z hz=>hp z (zAO _ hz)) hx ho hi;have hx0:=hp x (zAO _ (zAC hx));have hy0:=hp y (by simp);split
  ·rename_i hy
   by_cases he:y.imm.toNat=x.imm.toNat
   ·rw[<-he,List.getElem?_set_self (by omega)];have:=aB9.1 hc i t.length x y hit (by rw[zAE hit];exact hx) (by simp);unfold clash at this;have e:x.imm=y.imm:=by omega
    simp[ho,hy,e]at this;rw[this]
   ·rw[List.getElem?_set_ne he];exact h1
  ·exact h1
 ·have hit2:i=t.length:=by
   have:=(zAA.1 hx).1;simp at this;omega
  subst hit2;simp at hx;subst hx;rw[if_pos ho,List.getElem?_set_self (by omega)]
end Go.Proofs.YtchdbhggbdcapaaGreat.T
end
namespace Go.Proofs.YtchdbhggbdcapaaGreat
open _root_.Go.Proofs.Tryz
section
open Go.RowKit
def ndC(x:T.Nd)(A:Option Addr)(c:Nat):List Value:= [.int .i64 x.op, .int .i64 x.w, .int .i64 x.fl, .slice A x.args.length c, .int .u32 x.imm]
def NdR(W:World)(us:List Value)(x:T.Nd):Prop:=∃A c,us=ndC x A c/\SlAt (IntR .i64) W A x.args.length x.args/\0<=x.imm/\x.imm<4294967296
theorem aAh:MonoL NdR:=by
 rintro w w' us x hb ⟨A,c,rfl,h,h2⟩;exact⟨A,c,rfl,h.below (aAd _) hb,h2⟩
theorem aIk(op:Int):(op=0/\T.ar op=0)\/(op=33/\T.ar op=0)\/(1<=op/\op<=14/\T.ar op=2)\/(op=15/\T.ar op=3)\/(16<=op/\op<=18/\T.ar op=1)\/(¬op=0/\¬op=33/\¬(1<=op/\op<=14)/\¬op=15/\¬(16<=op/\op<=18)/\T.ar op= -1):=by
 unfold T.ar
 by_cases h0:op=0
 ·exact .inl ⟨h0,by rw[if_pos (.inl h0)]⟩
 by_cases h33:op=33
 ·exact .inr (.inl ⟨h33,by rw[if_pos (.inr h33)]⟩)
 rw[if_neg (by omega)]
 by_cases h14:1<=op/\op<=14
 ·exact .inr (.inr (.inl ⟨h14.1,h14.2,by rw[if_pos h14]⟩))
 rw[if_neg h14]
 by_cases h15:op=15
 ·exact .inr (.inr (.inr (.inl ⟨h15,by rw[if_pos h15]⟩)))
 rw[if_neg h15]
 by_cases h18:16<=op/\op<=18
 ·exact .inr (.inr (.inr (.inr (.inl ⟨h18.1,h18.2,by rw[if_pos h18]⟩))))
 rw[if_neg h18];exact .inr (.inr (.inr (.inr (.inr ⟨h0,h33,h14,h15,h18,rfl⟩))))
theorem aV5(op:Int)(W:World):Calls prog 80 #[.int .i64 op] W fun e w'=>e= .returned (.tuple #[.int .i64 (if 0<=T.ar op then T.ar op else 0), .bool (decide (0<=T.ar op))])/\W=w':=by
 rcases aIk op with⟨rfl,h⟩ |⟨rfl,h⟩ |⟨h1,h2,h⟩ |⟨rfl,h⟩ |⟨h1,h2,h⟩ |⟨a,b,c,d,e,h⟩
 ·go_enter func80,ntmps80
  go_wp2;go_ret2;exact⟨rfl,rfl⟩
 ·go_enter func80,ntmps80
  go_wp2;go_ret2;exact⟨rfl,rfl⟩
 ·rw[h,show(if(0:Int)<=2 then(2:Int)else 0)=2 from rfl,show decide ((0:Int)<=2)=true from rfl];clear h;have q0:(op == 0)=false:=by simp;omega
  have q1:(op == 33)=false:=by simp;omega
  have q2:decide (1<=op)=true:=by simp;omega
  have q3:decide (op<=14)=true:=by simp;omega
  go_enter func80,ntmps80
  go_wp2;go_ret2;exact⟨rfl,rfl⟩
 ·go_enter func80,ntmps80
  go_wp2;go_ret2;exact⟨rfl,rfl⟩
 ·rw[h,show(if(0:Int)<=1 then(1:Int)else 0)=1 from rfl,show decide ((0:Int)<=1)=true from rfl];clear h;have hop:op=16\/op=17\/op=18:=by omega
  clear h1 h2;rcases hop with rfl | rfl | rfl
  all_goals
   go_enter func80,ntmps80
   go_wp2;go_ret2;exact⟨rfl,rfl⟩
 ·rw[h,show(if(0:Int)<=-1 then(-1:Int)else 0)=0 from rfl,show decide ((0:Int)<=-1)=false from rfl];clear h;have q0:(op == 0)=false:=by simp;omega
  have q1:(op == 33)=false:=by simp;omega
  have q4:(op == 15)=false:=by simp;omega
  by_cases hn:op<1
  ·have q2:decide (1<=op)=false:=by simp;omega
   have q5:decide (16<=op)=false:=by simp;omega
   clear a b c d e hn
   go_enter func80,ntmps80
   go_wp2;go_ret2;exact⟨rfl,rfl⟩
  ·have q2:decide (1<=op)=true:=by simp;omega
   have q3:decide (op<=14)=false:=by simp;omega
   have q5:decide (16<=op)=true:=by simp;omega
   have q6:decide (op<=18)=false:=by simp;omega
   clear a b c d e hn
   go_enter func80,ntmps80
   go_wp2;go_ret2;exact⟨rfl,rfl⟩
def ndV(x:T.Nd)(A:Option Addr)(c:Nat):Value:= .agg #[.int .i64 x.op, .int .i64 x.w, .int .i64 x.fl, .slice A x.args.length c, .int .u32 x.imm]
theorem aV6(op w fl imm:Int)(n:Nat)(A:Option Addr)(c:Nat)(args:List Int)(W:World):
 Calls prog 109 #[.agg #[.int .i64 op, .int .i64 w, .int .i64 fl, .slice A n c, .int .u32 imm]] W fun e w'=>e= .returned (.bool (T.immOk ⟨op,w,fl,args,imm⟩))/\Below W.heap.size W w':=by
 have HB1:=kH (show∀o,Below W.heap.size W (W.alloc o)from fun o=>(Below.refl _ _).alloc (zBJ _) o);unfold T.immOk
 dsimp only
 by_cases h0:op=0
 ·subst h0;rw[if_pos rfl];have HM:=kH (fun W'=>aL4 w W');unfold B.isW;cases hw:B.isWd w
  ·rw[hw]at HM;rw[Bool.false_and];clear hw
   go_enter func109,ntmps109
   go_wp2_with fail
   refine(HM.out _).mono ?_;rintro e w' ⟨rfl,rfl⟩;go_wp2;go_ret;exact⟨rfl,HB1.out _⟩
  ·rw[hw]at HM;rw[Bool.true_and];obtain⟨P,hP⟩:∃P,P=B.pw w:=⟨_,rfl⟩;rw[<-hP]at HM⊢;have hd:decide (imm<P)=decide (imm<=P-1):=by by_cases h:imm<P <;> simp <;> omega
   rw[hd];clear hw hP hd
   go_enter func109,ntmps109
   go_wp2_with fail
   refine(HM.out _).mono ?_;rintro e w' ⟨rfl,rfl⟩;go_wp2;go_ret;exact⟨rfl,HB1.out _⟩
 ·rw[if_neg h0];have q0:(op == 0)=false:=by simpa using h0
  by_cases h33:op=33
  ·subst h33;rw[if_pos rfl];clear h0 q0
   go_enter func109,ntmps109
   go_wp2;go_ret;exact⟨rfl,HB1.out _⟩
  ·rw[if_neg h33];have q1:(op == 33)=false:=by simpa using h33
   by_cases h14:op=14
   ·subst h14;rw[if_pos rfl];clear h0 q0 h33 q1
    go_enter func109,ntmps109
    go_wp2;go_ret;exact⟨rfl,HB1.out _⟩
   ·rw[if_neg h14];have q2:(op == 14)=false:=by simpa using h14
    have hd:decide (imm=0)=(imm == 0):=by by_cases h:imm=0 <;> simp[h]
    rw[hd];clear h0 h33 h14 hd
    go_enter func109,ntmps109
    go_wp2;go_ret;exact⟨rfl,HB1.out _⟩
end
section
open Go.ChangeShapes Go.WideShapes Go.ChangeAt Go.RowKit Go.Deep
theorem aX9:prog.cellsOf 3=1:=by kernel_rfl
theorem aYa:prog.cellsOf 56=5:=by kernel_rfl
theorem aYb{H:Type}{enc:TypeId×Value->H}{W:World}{fs:Array Field}(hfs:fs.size=5)(hty:∀(j:Nat) (f:Field),fs[j]? =some f->f.type=(#[3,3,3,37,45]).getD j 0):aOh enc prog W fs NdR:=by
 intro n us hl hu;have get:∀j,j<5->∃u y,us[j]? =some u/\DataW.trod enc prog W 0 (fun _=>true) true n ((#[3,3,3,37,45]).getD j 0) [u]=some y:=fun j hj=>by
  have hj':j<fs.size:=by omega
  obtain⟨u,y,h1,h2⟩:=hu j fs[j] (Array.getElem?_eq_getElem hj');rw[hty j _ (Array.getElem?_eq_getElem hj')]at h2;exact⟨u,y,h1,h2⟩
 obtain⟨u0,y0,g0,h0⟩:=get 0 (by omega);obtain⟨u1,y1,g1,h1⟩:=get 1 (by omega);obtain⟨u2,y2,g2,h2⟩:=get 2 (by omega);obtain⟨u3,y3,g3,h3⟩:=get 3 (by omega);obtain⟨u4,y4,g4,h4⟩:=get 4 (by omega);obtain⟨a,e0,_,_⟩:=DataW.trod_int underlying3 h0;obtain⟨b,e1,_,_⟩:=DataW.trod_int underlying3 h1;obtain⟨c,e2,_,_⟩:=DataW.trod_int underlying3 h2;obtain⟨l,A,cp,e3,s3⟩:=aUy (enc:=enc) (W:=W) underlying37 aX9 (aQ3 underlying3) n u3 y3 h3;obtain⟨d,e4,d0,d1⟩:=aX8 (enc:=enc) (W:=W) underlying45 n u4 y4 h4;have e0':=(List.cons.inj e0).1;have e1':=(List.cons.inj e1).1;have e2':=(List.cons.inj e2).1;rw[hfs]at hl;refine⟨⟨a,b,c,l,d⟩,A,cp,?_,s3,d0,d1⟩
 match us,hl,g0,g1,g2,g3,g4 with
 | [v0,v1,v2,v3,v4],_,g0,g1,g2,g3,g4=>
  simp at g0 g1 g2 g3 g4;subst g0 g1 g2 g3 g4;rw[e0',e1',e2',e3,e4];rfl
theorem aEh{H:Type}{enc:TypeId×Value->H}{W:World}{r:Reach}{b0:Nat}{v:Value}{d:DataW H}{ps:List MemPlace}(hval:Value.okWide prog W r b0 22 v)(h:DataW.Trod enc prog W 0 (fun _=>true) true 22 v d ps):
 ∃A m c xs,v= .slice A m c/\StAt 5 NdR W A m xs:=
 bDg (R:=NdR) underlying22 underlying56 (by kernel_rfl) aYa (by decide) (aYb rfl (fun j f h=>by rcases j with _ | _ | _ | _ | _ | j <;> simp at h <;>(subst h;rfl))) hval h
end
end Go.Proofs.YtchdbhggbdcapaaGreat
section
namespace Go.Proofs.YtchdbhggbdcapaaGreat.S
def isLit(n l:Int):Bool:=decide (-n<=l/\l<=n/\l≠0)
def isClause(n:Int)(c:List Int):Bool:=c.all (isLit n)
def aAe(n:Int)(cs:List (List Int)):Int:=if n<0\/4000<n\/24000<cs.length then 3 else if cs.all (isClause n)then 0 else 1
inductive Der(cs:List (List Int))(given:List Int):Int->Prop
 | given_ {l:Int}:l∈given->Der cs given l
 | unit_ {l:Int} {c:List Int}:c∈cs->l∈c->(∀m∈c,m≠l->Der cs given (-m))->Der cs given l
def aA2(cs:List (List Int))(given:List Int):Prop:=
 (∃l,Der cs given l/\Der cs given (-l))\/∃c∈cs,∀m∈c,Der cs given (-m)
def negs(c:List Int):List Int:=c.map fun x=> -x
noncomputable def fol(cs:List (List Int))(c:List Int):Bool:= @decide (aA2 cs (negs c)) (Classical.propDecidable _)
theorem aEi{cs:List (List Int)}{c:List Int}:fol cs c=true↔aA2 cs (negs c):=by unfold fol;exact @decide_eq_true_iff _ (Classical.propDecidable _)
noncomputable def bad(cs:List (List Int)):List (List Int)->Option Nat
 | []=>none
 | x :: r=>if fol cs x then(bad (cs ++ [x]) r).map (· + 1)else some 0
noncomputable def aBg(cs l:List (List Int)):Option Nat:=
 match bad cs l with
 | some k=>some k
 | none=>if l.getLast? =some []then none else some l.length
noncomputable def check(n:Int)(cs l:List (List Int)):Int×Int:=
 if aAe n cs≠0 then(0,aAe n cs)else if aAe n l≠0 then(0,aAe n l)else
 match aBg cs l with
 | some k=>(k,8)
 | none=>(l.length,0)
def sat(model:List Bool)(c:List Int):Bool:=c.any fun x=>model.getD (x.natAbs-1) false == decide (0<x)
end Go.Proofs.YtchdbhggbdcapaaGreat.S
end
section
namespace Go.Proofs.YtchdbhggbdcapaaGreat.S
def Opn(tr:Int->Bool)(x:Int):Prop:=tr x=false/\tr (-x)=false
def Fine(tr:Int->Bool)(c:List Int):Prop:=(∃x∈c,tr x=true)\/∃x∈c,∃y∈c,x≠y/\Opn tr x/\Opn tr y
theorem aL7{tr:Int->Bool}{cs:List (List Int)}{given:List Int}(hc:∀l,tr l=true->tr (-l)=false)(hg:∀l∈given,tr l=true)(hf:∀c∈cs,Fine tr c):
 (∀l,Der cs given l->tr l=true)/\¬aA2 cs given:=by
 have h1:∀l,Der cs given l->tr l=true:=by
  intro l hd;induction hd with
  | given_ h=>exact hg _ h
  | @unit_ l c hcs hl _ ih=>
   have hneg:∀m∈c,m≠l->tr m=false:=fun m hm hne=>by
    have:=hc _ (ih m hm hne)
    rwa [Int.neg_neg]at this
   rcases hf c hcs with⟨x,hx,hxt⟩ |⟨x,hx,y,hy,hxy,ox,oy⟩
   ·by_cases hxl:x=l
    ·rw[<-hxl];exact hxt
    ·rw[hneg x hx hxl]at hxt;cases hxt
   ·by_cases hxl:x=l
    ·have hyl:y≠l:=fun e=>hxy (hxl.trans e.symm)
     have:=oy.2;rw[ih y hy hyl]at this;cases this
    ·have:=ox.2;rw[ih x hx hxl]at this;cases this
 refine⟨h1,?_⟩;rintro(⟨l,hl,hl'⟩ |⟨c,hcs,hall⟩)
 ·have:=hc _ (h1 l hl);rw[h1 _ hl']at this;cases this
 ·have hfalse:∀m∈c,tr m=false:=fun m hm=>by
   have:=hc _ (h1 _ (hall m hm))
   rwa [Int.neg_neg]at this
  rcases hf c hcs with⟨x,hx,hxt⟩ |⟨x,hx,y,hy,hxy,ox,oy⟩
  ·rw[hfalse x hx]at hxt;cases hxt
  ·have:=ox.2;rw[h1 _ (hall x hx)]at this;cases this
theorem aJ3{cs:List (List Int)}{given:List Int}{l:Int}(h:Der cs given l)(h':Der cs given (-l)):aA2 cs given:= .inl ⟨l,h,h'⟩
theorem aDj{cs:List (List Int)}{given:List Int}{c:List Int}(hc:c∈cs)(h:∀m∈c,Der cs given (-m)):aA2 cs given:= .inr ⟨c,hc,h⟩
theorem Der.mono{cs cs':List (List Int)}{g g':List Int}(hc:∀c∈cs,c∈cs')(hg:∀l∈g,l∈g'){l:Int}(h:Der cs g l):Der cs' g' l:=by
 induction h with
 | given_ h=>exact .given_ (hg _ h)
 | unit_ h1 h2 _ ih=>exact .unit_ (hc _ h1) h2 ih
theorem aA2.mono{cs cs':List (List Int)}{g g':List Int}(hc:∀c∈cs,c∈cs')(hg:∀l∈g,l∈g')(h:aA2 cs g):aA2 cs' g':=by
 rcases h with⟨l,h,h'⟩ |⟨c,h,h'⟩
 ·exact .inl ⟨l,h.mono hc hg,h'.mono hc hg⟩
 ·exact .inr ⟨c,hc _ h,fun m hm=>(h' m hm).mono hc hg⟩
def val(of:List Int)(l:Int):Int:=if 0<l then of.getD l.toNat 0 else-of.getD (-l).toNat 0
def sgn(l:Int):Int:=if 0<l then 1 else -1
def put(of:List Int)(l:Int):List Int:=of.set l.natAbs (sgn l)
structure Wf(n:Nat)(of:List Int):Prop where
 len:of.length=n+1
 tri:∀k,of.getD k 0= -1\/of.getD k 0=0\/of.getD k 0=1
theorem Wf.val{n:Nat}{of:List Int}(h:Wf n of)(l:Int):val of l= -1\/val of l=0\/val of l=1:=by
 unfold S.val;split
 ·exact h.tri _
 ·have:=h.tri (-l).toNat;omega
theorem aDb(of:List Int){l:Int}(h:l≠0):val of (-l)= - val of l:=by
 unfold val
 by_cases h0:0<l
 ·rw[if_neg (by omega),if_pos h0,Int.neg_neg]
 ·rw[if_pos (by omega),if_neg h0,Int.neg_neg]
theorem aC3(of:List Int)(i j:Nat)(x:Int):(of.set i x).getD j 0=if i=j/\i<of.length then x else of.getD j 0:=by
 simp only[List.getD,List.getElem?_set]
 by_cases h:i=j
 ·subst h
  by_cases h2:i<of.length
  ·simp[h2]
  ·simp[h2]
 ·simp[h]
theorem aK6{n:Nat}{of:List Int}(hw:Wf n of){l:Int}(hl:isLit n l=true)(m:Int)(hm:m≠0):val (put of l) m=if m=l then 1 else if m= -l then -1 else val of m:=by
 have hl': -(n:Int)<=l/\l<=n/\l≠0:=by simpa[isLit]using hl
 have hlt:l.natAbs<of.length:=by rw[hw.len];omega
 unfold val put;rw[aC3,aC3]
 by_cases h1:m=l
 ·subst h1
  by_cases h0:0<m
  ·rw[if_pos h0,if_pos ⟨by omega,hlt⟩];simp[sgn,h0]
  ·rw[if_neg h0,if_pos ⟨by omega,hlt⟩];simp[sgn,h0]
 ·rw[if_neg h1]
  by_cases h2:m= -l
  ·subst h2
   by_cases h0:0< -l
   ·rw[if_pos h0,if_pos ⟨by omega,hlt⟩,if_pos rfl];simp[sgn];omega
   ·rw[if_neg h0,if_pos ⟨by omega,hlt⟩,if_pos rfl];simp[sgn];omega
  ·rw[if_neg h2]
   by_cases h0:0<m
   ·rw[if_pos h0,if_pos h0,if_neg (by omega)]
   ·rw[if_neg h0,if_neg h0,if_neg (by omega)]
theorem Wf.put{n:Nat}{of:List Int}(hw:Wf n of)(l:Int):Wf n (put of l):=by
 refine⟨by simp[S.put,hw.len],fun k=>?_⟩;unfold S.put;rw[aC3];split
 ·unfold sgn;split <;> simp
 ·exact hw.tri k
theorem aCf{n l:Int}(h:isLit n l=true):isLit n (-l)=true:=by
 simp only[isLit,zBQ]at h⊢;omega
theorem aAc{n l:Int}(h:isLit n l=true):l≠0:=by
 simp only[isLit,zBQ]at h;omega
structure PInv(cs:List (List Int))(given:List Int)(n:Nat)(tr:Int->Bool):Prop where
 lit:∀l,tr l=true->isLit n l=true
 sound:∀l,tr l=true->Der cs given l
 con:∀l,tr l=true->tr (-l)=false
def also(tr:Int->Bool)(l:Int):Int->Bool:=fun x=>if x=l then true else tr x
theorem PInv.also{cs:List (List Int)}{given:List Int}{n:Nat}{tr:Int->Bool}(h:PInv cs given n tr){l:Int}(hl:isLit n l=true)(hd:Der cs given l)(hn:tr (-l)=false):PInv cs given n (S.also tr l):=by
 have hl0:=aAc hl;refine⟨fun m hm=>?_,fun m hm=>?_,fun m hm=>?_⟩
 ·unfold S.also at hm;split at hm
  ·rename_i e;rw[e];exact hl
  ·exact h.lit m hm
 ·unfold S.also at hm;split at hm
  ·rename_i e;rw[e];exact hd
  ·exact h.sound m hm
 ·unfold S.also at hm⊢;split at hm
  ·rename_i e;subst e;rw[if_neg (by omega)];exact hn
  ·by_cases e: -m=l
   ·subst e;rw[Int.neg_neg]at hn;rw[hn]at hm;cases hm
   ·rw[if_neg e];exact h.con m hm
def Waits(tr:Int->Bool)(queue:List Int)(c:List Int):Prop:=Fine tr c\/∃m∈c,-m∈queue
theorem Waits.also{tr:Int->Bool}{queue:List Int}{c:List Int}{l:Int}(h:Waits tr queue c)(hn:tr (-l)=false):Waits (S.also tr l) (queue ++ [l]) c:=by
 rcases h with(⟨x,hx,hxt⟩ |⟨x,hx,y,hy,hne,ox,oy⟩) |⟨m,hm,hq⟩
 ·exact .inl (.inl ⟨x,hx,by unfold S.also;split <;> simp[hxt]⟩)
 ·by_cases h1:x=l
  ·exact .inl (.inl ⟨x,hx,by simp[S.also,h1]⟩)
  by_cases h2: -x=l
  ·exact .inr ⟨x,hx,by simp[h2]⟩
  by_cases h3:y=l
  ·exact .inl (.inl ⟨y,hy,by simp[S.also,h3]⟩)
  by_cases h4: -y=l
  ·exact .inr ⟨y,hy,by simp[h4]⟩
  exact .inl (.inr ⟨x,hx,y,hy,hne,⟨by simp[S.also,h1,ox.1],by simp[S.also,h2,ox.2]⟩,⟨by simp[S.also,h3,oy.1],by simp[S.also,h4,oy.2]⟩⟩)
 ·exact .inr ⟨m,hm,by simp[hq]⟩
theorem PInv.fin{cs:List (List Int)}{given:List Int}{n:Nat}{tr:Int->Bool}(h:PInv cs given n tr)(hg:∀l∈given,tr l=true)(hf:∀c∈cs,Waits tr [] c):
 ¬aA2 cs given/\∀l,tr l=true↔Der cs given l:=by
 obtain⟨h1,h2⟩:=aL7 h.con hg (fun c hc=>(hf c hc).resolve_right (by rintro⟨m,_,hm⟩;cases hm));exact⟨h2,fun l=>⟨h.sound l,h1 l⟩⟩
def lits(n:Nat):List Int:=(List.range n).flatMap fun(k:Nat)=> [(k:Int)+1,-((k:Int)+1)]
theorem bAu{n:Nat}{l:Int}(h:isLit n l=true):l∈lits n:=by
 have hl': -(n:Int)<=l/\l<=n/\l≠0:=by simpa[isLit]using h
 unfold lits;rw[List.mem_flatMap];exact⟨l.natAbs-1,by rw[zBR];omega,by simp;omega⟩
def open_(n:Nat)(tr:Int->Bool):Nat:=(lits n).countP fun l=>!tr l
theorem aYc{p q:Int->Bool}{l:List Int}(h:∀x,p x=true->q x=true){x:Int}(hx:x∈l)(hp:p x=false)(hq:q x=true):l.countP p<l.countP q:=by
 induction l with
 | nil=>cases hx
 | cons y r ih=>
  simp only[List.countP_cons];have hmono:r.countP p<=r.countP q:=List.countP_mono_left fun z _=>h z
  rcases zBF.1 hx with rfl | hx
  ·simp[hp,hq];omega
  ·have:=ih hx;have h2:=h y;cases hpy:p y <;> cases hqy:q y <;> simp_all <;> omega
theorem aO9{n:Nat}{tr:Int->Bool}{l:Int}(hl:isLit n l=true)(hn:tr l=false):open_ n (also tr l) < open_ n tr:=
 aYc (x:=l) (fun x hx=>by unfold also at hx;split at hx <;> simp_all) (bAu hl) (by simp[also]) (by simp[hn])
end Go.Proofs.YtchdbhggbdcapaaGreat.S
end
