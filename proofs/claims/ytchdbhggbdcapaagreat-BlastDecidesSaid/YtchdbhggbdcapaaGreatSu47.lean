/- Part. -/
import Derived.Test.YtchdbhggbdcapaaGreatSuLX
import Derived.Test.YtchdbhggbdcapaaGreatSu01
set_option linter.unusedVariables false
set_option linter.unusedSimpArgs false
set_option maxRecDepth 100000
set_option maxHeartbeats 16000000
section
section
namespace Go.Proofs.YtchdbhggbdcapaaGreat
open _root_.Go.Proofs.Tryz
open Go.ChangeShapes Go.WideShapes Go.ChangeAt Go.RowKit Go.Deep
section
variable {α : Type} {s : Nat} {R : World -> List Value -> α -> Prop} {w w' : World} {A : Option Addr} {n : Nat} {xs : List α}
theorem OwnAt.stAt{e:TypeId}{c:Nat}{vs:List Value}{ys:List α}(h:OwnAt w e s (.slice A n c) n vs)(hl:ys.length=n)
 (hR:∀(k:Nat) (x:α),ys[k]? =some x->R w ((vs.drop (k*s)).take s) x):StAt s R w A n ys:=by
 refine⟨hl,h.le,fun k x hx=>?_⟩;have hk:k<ys.length:=(zAA.1 hx).1;rcases h.2 with⟨h1,h2⟩ |⟨g,off,cap,cur,h1,hg,_,_,_,hcur⟩
 ·omega
 ·injection h1 with h1 _ _
  have hvl:=h.1;have hks:k*s+s<=n*s:=by rw[<-Nat.succ_mul];exact Nat.mul_le_mul_right _ (by omega)
  refine⟨g,off,(vs.drop (k*s)).take s,h1,(gA hg).1,by rw[zAZ,List.length_drop];omega,fun j u hu=>?_,hR k x hx⟩;rw[cell_of_row w g _ cur e (0,0) hg,Nat.add_assoc];refine hcur _ _ ?_;rw[zBB]at hu;split at hu
  ·rw[List.getElem?_drop]at hu;exact hu
  ·cases hu
end
end Go.Proofs.YtchdbhggbdcapaaGreat
end
end
namespace Go.Proofs.YtchdbhggbdcapaaGreat
open _root_.Go.Proofs.Tryz
section
open Go.RowKit
def NdO(B:Nat)(w:World)(us:List Value)(x:T.Nd):Prop:=
 ∃A c,us=ndC x A c/\SlAt (IntR .i64) w A x.args.length x.args/\0<=x.imm/\x.imm<4294967296/\(x.args≠ []->∀b off,A=some ⟨b,off,none⟩->b<B\/∃cur fr,w.heap[b]? =some (.cells cur 3 fr))
section
variable {B : Nat} {w w' : World} {us : List Value} {x : T.Nd}
theorem NdO.ndR(h:NdO B w us x):NdR w us x:=by
 obtain⟨A,c,h1,h2,h3,h4,_⟩:=h;exact⟨A,c,h1,h2,h3,h4⟩
theorem NdO.below(h:NdO B w us x)(hb:Below w.heap.size w w'):NdO B w' us x:=by
 obtain⟨A,c,h1,h2,h3,h4,h5⟩:=h;refine⟨A,c,h1,h2.below (aAd _) hb,h3,h4,fun hn b off hA=>?_⟩;rcases h5 hn b off hA with h |⟨cur,fr,h⟩
 ·exact .inl h
 ·exact .inr ⟨cur,fr,(hb.block b (gA h).1).trans h⟩
theorem NdO.grown{row:Option Nat}(h:NdO B w us x)(hg:w.grownBy w' row)(hr:∀g,row=some g->B<=g/\∃cur fr,w.heap[g]? =some (.cells cur 56 fr)):NdO B w' us x:=by
 obtain⟨A,c,h1,h2,h3,h4,h5⟩:=h;have hne:x.args≠ []->∀b off,A=some ⟨b,off,none⟩->row≠some b:=by
  intro hn b off hA e;obtain⟨g1,cur,fr,g2⟩:=hr b e;rcases h5 hn b off hA with h |⟨cur',fr',h⟩
  ·omega
  ·rw[g2]at h;injection h with h
   injection h with _ h _
   exact absurd h (by decide)
 refine⟨A,c,h1,⟨h2.1,h2.2.1,fun k y hy=>?_⟩,h3,h4,fun hn b off hA=>?_⟩
 ·obtain⟨b,off,u,hA,hlt,hc,hu⟩:=h2.2.2 k y hy;have hn:x.args≠ []:=fun e=>by rw[e]at hy;simp at hy
  have e:=hg.block b hlt (fun e=>hne hn b off hA e.symm);refine⟨b,off,u,hA,zAL hlt hg.size,?_,hu⟩;unfold World.cell? at hc⊢;rw[e];exact hc
 ·rcases h5 hn b off hA with h |⟨cur,fr,h⟩
  ·exact .inl h
  ·exact .inr ⟨cur,fr,by rw[hg.block b (gA h).1 (fun e=>hne hn b off hA e.symm)];exact h⟩
theorem NdR.ndO(h:NdR w us x)(hB:w.heap.size<=B):NdO B w us x:=by
 obtain⟨A,c,h1,h2,h3,h4⟩:=h;refine⟨A,c,h1,h2,h3,h4,fun hn b off hA=> .inl ?_⟩;obtain⟨y,b',off',u,_,hA',hlt,_⟩:=h2.at_ (k:=0) (List.length_pos_iff.2 hn);rw[hA]at hA';cases hA';omega
end
def OwnNd(B:Nat)(w:World)(v:Value)(nds:List T.Nd):Prop:=
 ∃cells,OwnAt w 56 5 v nds.length cells/\(∀(k:Nat) (x:T.Nd),nds[k]? =some x->NdO B w ((cells.drop (k*5)).take 5) x)/\∀g,v.ownBlock=some g->B<=g
section
variable {B : Nat} {w w' : World} {v : Value} {nds : List T.Nd}
theorem OwnNd.form(h:OwnNd B w v nds):∃A c,v= .slice A nds.length c:=by
 obtain⟨cells,h1,_⟩:=h;exact h1.form
theorem OwnNd.below(h:OwnNd B w v nds)(hb:Below w.heap.size w w'):OwnNd B w' v nds:=by
 obtain⟨cells,h1,h2,h3⟩:=h;exact⟨cells,h1.below hb h1.lt,fun k x hx=>(h2 k x hx).below hb,h3⟩
theorem OwnNd.stAt{A:Option Addr}{n c:Nat}(h:OwnNd B w (.slice A n c) nds)(hn:nds.length=n):StAt 5 NdR w A n nds:=by
 obtain⟨cells,h1,h2,h3⟩:=h;rw[hn]at h1;exact h1.stAt hn fun k x hx=>(h2 k x hx).ndR
theorem OwnNd.row(h:OwnNd B w v nds):∀g,v.ownBlock=some g->B<=g/\∃cur fr,w.heap[g]? =some (.cells cur 56 fr):=by
 obtain⟨cells,h1,h2,h3⟩:=h;intro g hg;refine⟨h3 g hg,?_⟩;rcases h1.2 with⟨rfl,_⟩ |⟨g',off,cap,cur,rfl,hcur,_⟩
 ·simp[Value.ownBlock]at hg
 ·simp[Value.ownBlock]at hg;subst hg;exact⟨cur,_,hcur⟩
end
theorem bCv:(prog.info? 56).map (fun i=>(i.zero,i.size,i.bytes))=some (some (.agg #[.int .i64 0, .int .i64 0, .int .i64 0, .slice none 0 0, .int .u32 0]),5,56):=by kernel_rfl
theorem aV0(x:T.Nd)(A:Option Addr)(c:Nat):(ndC x A c).length=5:=rfl
theorem bEf(x:T.Nd)(A:Option Addr)(c:Nat):∀u∈ndC x A c,u.oneCell'=true:=by
 intro u hu;simp[ndC]at hu;rcases hu with rfl | rfl | rfl | rfl | rfl <;> rfl
theorem aFz{w:World}{ops:Array Oper}{rest:List Oper}{o:Oper}{a:Act}{Q:Exit->Act->World->Prop}(hgd:o.guard=none)(sx x:Operand)
 (ho:o.op= .call {callee:= .builtin .append,args:= #[sx,x],argTypes:= #[22,22]})
 (B:Nat) (v:Value) (nds:List T.Nd) (hs:a.eval sx=v) (hown:OwnNd B w v nds) (m:Nat) (us:List Value) (xs:List T.Nd) (hm:xs.length=m) (hl:us.length=m*5) (hnd:∀(k:Nat) (x:T.Nd),xs[k]? =some x->NdO B w ((us.drop (k*5)).take 5) x) (hone:∀u∈us,u.oneCell'=true)
 (A:Option Addr) (c:Nat) (hx:a.eval x= .slice A m c) (hsrc:∀j u,us[j]? =some u->∃ad:Addr,A=some ad/\w.cell? (ad.add j)=some u) (hn:nds.length+m<=1000000) (hB:B<=w.heap.size)
 (h:∀v' w',OwnNd B w' v' (nds ++ xs)->w.grownBy w' v.ownBlock->(v'.ownBlock=v.ownBlock\/v'.ownBlock=some w.heap.size)->(∀w0,Below B w0 w->Below B w0 w')->wpList prog ops Q rest (a.put o.dst v') w'):
 wpList prog ops Q (o :: rest) a w:=by
 obtain⟨cells,h1,h2,h3⟩:=id hown;have hcl:=h1.1;refine aBv _ hgd sx x 22 ho 56 _ 5 56 underlying22 bCv rfl (by decide) v nds.length cells hs h1 A m c us hx hl hsrc hone (by omega) (by decide) ?_;intro v' w' hown' hgr hat;have hrow:∀g,v.ownBlock=some g->B<=g/\∃cur fr,w.heap[g]? =some (.cells cur 56 fr):=fun g hg=>hown.row g hg
 refine h v' w' ⟨cells ++ us,by rw[zAX,hm];exact hown',?_,?_⟩ hgr hat ?_
 ·intro k y hy;rcases Nat.lt_or_ge k nds.length with hk | hk
  ·rw[zAE hk]at hy;have e:((cells ++ us).drop (k*5)).take 5=(cells.drop (k*5)).take 5:=by
    rw[List.drop_append_of_le_length (by omega),List.take_append_of_le_length (by rw[List.length_drop];omega)]
   rw[e];exact(h2 k y hy).grown hgr hrow
  ·rw[zAF hk]at hy;have e:((cells ++ us).drop (k*5)).take 5=(us.drop ((k-nds.length)*5)).take 5:=by
    rw[List.drop_append,List.drop_of_length_le (by omega),List.nil_append,hcl,show k*5-nds.length*5=(k-nds.length)*5 by omega]
   rw[e];exact(hnd _ y hy).grown hgr hrow
 ·intro g hg;rcases hat with e | e
  ·exact h3 g (by rw[<-e];exact hg)
  ·rw[e]at hg;injection hg with hg
   omega
 ·intro w0 hw0;exact hw0.grown hgr hB h3
end
end Go.Proofs.YtchdbhggbdcapaaGreat
