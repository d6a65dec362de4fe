/- Part. -/
import Derived.Test.YtchdbhggbdcapaaGreatSuLX
import Derived.WalkLawsBesides
import Derived.WalkSpells
import Derived.Lib.Hide
import Derived.BigQuiet
import Derived.Deep.RegionLaw
import Derived.Deep.RegionHeld
import Derived.Carry
import Derived.Laws.EntriesVeiled
import Derived.Shelf.Abstract
import Derived.StillTailTactics
import Derived.Test.YtchdbhggbdcapaaGreatProg
set_option linter.unusedVariables false
set_option linter.unusedSimpArgs false
set_option maxRecDepth 100000
set_option maxHeartbeats 16000000
namespace Go.Proofs.YtchdbhggbdcapaaGreat
open _root_.Go.Proofs.Tryz
section
open Go.RowKit
theorem yL{α:Type}:(∀(l:List α) (i:Nat) (a:α),l.toArray.setIfInBounds i a=(l.set i a).toArray)/\(∀(x:α) (xs:List α) (a:α),(x :: xs).set 0 a=a :: xs)/\(∀(x:α) (xs:List α) (i:Nat) (a:α),(x :: xs).set (i+1) a=x :: xs.set i a)/\(∀(xs:List α) (i:Nat) (h:i<xs.toArray.size),xs.toArray[i]=xs[i]'(by simpa using h))/\(∀(a:α) (l:List α) (i:Nat) (h:i+1<(a :: l).length),(a :: l)[i+1]=l[i]'(Nat.lt_of_succ_lt_succ h))/\(∀(a:α) (l:List α) (h:0<(a :: l).length),(a :: l)[0]=a):=
 ⟨fun _ _ _=>List.setIfInBounds_toArray ..,fun _ _ _=>List.set_cons_zero ..,fun _ _ _ _=>List.set_cons_succ ..,fun _ _ h=>List.getElem_toArray h,fun _ _ _ h=>List.getElem_cons_succ _ _ _ h,fun _ _ h=>List.getElem_cons_zero _ _ h⟩
theorem tk{P:Program}{ops:Array Oper}{Q:Exit->Act->World->Prop}{md:Region.Mode}{S:World->Prop}{oi:Oper}{fuel:Nat}{listed:Array Bool}{a:Act}{w:World}(i:Nat)(v:Value)(hS:S w)
 (hy:∀Y,S Y->(execOp a.eval oi).run P Y= .ok (.value v) Y) (h:wpAnyH P md ops Q S fuel (listed.setIfInBounds i true) (a.put oi.dst v) w)
 (hi:ops[i]? =some oi:=by exact rfl) (hs:Region.noSelect ops=true:=by kernel_rfl) (hf:Region.free md ops listed i=true:=by kernel_rfl) (hr:(Region.ready md ops listed).contains i=true:=by kernel_rfl)
 (hQ:∀c a w,Q (.panic c) (a.put oi.dst v) w->Q (.panic c) a w:=by exact fun _ _ _ h=>h) (hg:Region.wanted oi (yielded ops a.tmps)=true:=by rfl):wpAnyH P md ops Q S (fuel+1) listed a w:=
 wpAnyH_take hi hs hf hr hQ (.inl ⟨hg,hy⟩) hS h
theorem tK{P:Program}{ops:Array Oper}{Q:Exit->Act->World->Prop}{md:Region.Mode}{S:World->Prop}{fuel:Nat}{listed:Array Bool}{a:Act}{w:World}(i:Nat){oi:Oper}{v:Value}{a':Act}
 (h:wpAnyH P md ops Q S fuel (listed.setIfInBounds i true) a' w) (hS:S w:=by assumption) (hi:ops[i]? =some oi:=by exact rfl)
 (hy:∀Y,S Y->(execOp a.eval oi).run P Y= .ok (.value v) Y:=by(intro Y hY;(try dsimp only at hY);repeat(have hZ:=hY.1;replace hY:=hY.2);((go_simp) <;> with_reducible rfl)))
 (ea:a.put oi.dst v=a':=by(simp only[Act.put,yL];rfl))
 (hs:Region.noSelect ops=true:=by kernel_rfl) (hf:Region.free md ops listed i=true:=by kernel_rfl) (hr:(Region.ready md ops listed).contains i=true:=by kernel_rfl)
 (hQ:∀c a w,Q (.panic c) (a.put oi.dst v) w->Q (.panic c) a w:=by exact fun _ _ _ h=>h) (hg:Region.wanted oi (yielded ops a.tmps)=true:=by rfl):wpAnyH P md ops Q S (fuel+1) listed a w:=by
 subst ea;exact wpAnyH_take hi hs hf hr hQ (.inl ⟨hg,hy⟩) hS h
theorem rd{P:Program}{ops:Array Oper}{Q:Exit->Act->World->Prop}{md:Region.Mode}{S:World->Prop}{o:Oper}{fuel:Nat}{listed:Array Bool}{a:Act}{w:World}(i:Nat)
 (h:∀K':Act->World->Prop,Shut (∀a w,S w->(S w->wpAnyH P md ops Q S fuel (listed.setIfInBounds i true) a w)->K' a w)->if Region.wanted o (yielded ops a.tmps)=true then Oper.wp P o a w K' Q else K' (a.put o.dst undef) w)
 (hr:Region.ready md ops listed= [i]:=by kernel_rfl) (ho:ops[i]? =some o:=by exact rfl):wpAnyH P md ops Q S (fuel+1) listed a w:=
 wpAnyH_ready hr (by simp) (AllReadyH.cons ho h AllReadyH.nil)
theorem tc{α:Type}{x:Option α}{a b:α}(h:x=some a)(e:a=b:=by kernel_rfl):x=some b:=h.trans (congrArg some e)
theorem gA{α:Type}{xs:Array α}{i:Nat}{b:α}(h:xs[i]? =some b):∃h:i<xs.size,xs[i]=b:=Array.getElem?_eq_some_iff.1 h
theorem al0{W:World}{o:Obj}:Below W.heap.size W (W.alloc o):=(Below.refl _ _).alloc (zBJ _) _
theorem kH{p:Prop}(h:p):RowKit.Hid p:=h
def SlAt{α:Type}(R:World->Value->α->Prop)(w:World)(A:Option Addr)(n:Nat)(xs:List α):Prop:=
 xs.length=n/\n<=9223372036854775807/\∀k x,xs[k]? =some x->∃b off u,A=some ⟨b,off,none⟩/\b<w.heap.size/\w.cell? ⟨b,off+k,none⟩=some u/\R w u x
def IntR(q:IntKind)(_:World)(u:Value)(x:Int):Prop:=u= .int q x
def BoolR(_:World)(u:Value)(x:Bool):Prop:=u= .bool x
def SlR{α:Type}(R:World->Value->α->Prop)(w:World)(u:Value)(xs:List α):Prop:=
 ∃A c,u= .slice A xs.length c/\SlAt R w A xs.length xs
def Dr(w w':World):Prop:=∃n,w'=w.drewN n
theorem Dr.refl(w:World):Dr w w:=⟨0,rfl⟩
theorem Dr.drewN{w w':World}(h:Dr w w')(n:Nat):Dr w (w'.drewN n):=by
 obtain⟨m,rfl⟩:=h;exact⟨m+n,World.drewN_drewN _ _ _⟩
theorem Dr.drew{w w':World}(h:Dr w w'):Dr w w'.drew:=h.drewN 1
theorem Dr.trans{a b c:World}(h:Dr a b)(k:Dr b c):Dr a c:=by
 obtain⟨m,rfl⟩:=k;exact h.drewN m
theorem Dr.below{w w':World}(h:Dr w w')(B:Nat):Below B w w':=by
 obtain⟨n,rfl⟩:=h;exact⟨rfl,rfl,rfl,zBJ _,fun _ _=>rfl⟩
theorem _root_.Go.RowKit.Below.dr{B:Nat}{a w w':World}(h:Below B a w)(k:Dr w w'):Below B a w':=h.trans (k.below B)
def MonoR{α:Type}(R:World->Value->α->Prop):Prop:=∀w w' u x,Below w.heap.size w w'->R w u x->R w' u x
section
variable {α : Type} {R : World -> Value -> α -> Prop} {w w' : World} {A : Option Addr} {n : Nat} {xs : List α}
theorem aAd(q:IntKind):MonoR (IntR q):=fun _ _ _ _ _ h=>h
theorem SlAt.len(h:SlAt R w A n xs):xs.length=n:=h.1
theorem SlAt.le(h:SlAt R w A n xs):n<=9223372036854775807:=h.2.1
theorem SlAt.at_(h:SlAt R w A n xs){k:Nat}(hk:k<n):∃x b off u,xs[k]? =some x/\A=some ⟨b,off,none⟩/\b<w.heap.size/\w.cell? ⟨b,off+k,none⟩=some u/\R w u x:=by
 obtain⟨h1,_,h2⟩:=h;have hl:k<xs.length:=by omega
 obtain⟨b,off,u,r⟩:=h2 k xs[k] (zAB hl);exact⟨_,b,off,u,zAB hl,r⟩
theorem SlAt.below(hR:MonoR R)(h:SlAt R w A n xs)(hb:Below w.heap.size w w'):SlAt R w' A n xs:=by
 refine⟨h.1,h.2.1,fun k x hx=>?_⟩;obtain⟨b,off,u,hA,hlt,hc,hr⟩:=h.2.2 k x hx;exact⟨b,off,u,hA,zAL hlt hb.size,(hb.cell (p:=⟨b,off+k,none⟩) hlt).trans hc,hR _ _ _ _ hb hr⟩
theorem SlAt.dr(hR:MonoR R)(h:SlAt R w A n xs)(hb:Dr w w'):SlAt R w' A n xs:=h.below hR (hb.below _)
theorem aC9(hR:MonoR R):MonoR (SlR R):=by
 rintro w w' u xs hb ⟨A,c,rfl,h⟩;exact⟨A,c,rfl,h.below hR hb⟩
theorem SlAt.nil_(A:Option Addr):SlAt R w A 0 ([]:List α):=⟨rfl,by omega,fun k x h=>by simp at h⟩
theorem SlR.mk_{c:Nat}(h:SlAt R w A n xs):SlR R w (.slice A n c) xs:=by
 have:=h.1;subst this;exact⟨A,c,rfl,h⟩
end
def OwnAt(w:World)(e:TypeId)(s:Nat)(v:Value)(n:Nat)(xs:List Value):Prop:=
 xs.length=n*s/\((v= .slice none 0 0/\n=0)\/
  ∃g off cap cur,v= .slice (some ⟨g,off,none⟩) n cap/\w.heap[g]? =some (.cells cur e (0,0))/\n<=cap/\cap<=maxLen/\off+cap*s<=cur.size/\∀j u,xs[j]? =some u->cur[off+j]? =some u)
section
variable {w w' : World} {e : TypeId} {s : Nat} {v : Value} {n : Nat} {xs : List Value}
theorem OwnAt.nil_(w:World)(e:TypeId)(s:Nat):OwnAt w e s (.slice none 0 0) 0 []:=⟨by simp, .inl ⟨rfl,rfl⟩⟩
theorem OwnAt.lt(h:OwnAt w e s v n xs):∀k,v.ownBlock=some k->k<w.heap.size:=by
 intro k hk;rcases h.2 with⟨rfl,_⟩ |⟨g,off,cap,cur,rfl,hg,_⟩
 ·simp[Value.ownBlock]at hk
 ·simp[Value.ownBlock]at hk;subst hk;exact(gA hg).1
theorem OwnAt.same(h:OwnAt w e s v n xs)(hg:∀g,v.ownBlock=some g->w'.heap[g]? =w.heap[g]?):OwnAt w' e s v n xs:=by
 refine⟨h.1,?_⟩;rcases h.2 with hn |⟨g,off,cap,cur,rfl,hgg,r⟩
 ·exact .inl hn
 ·exact .inr ⟨g,off,cap,cur,rfl,by rw[hg g (by simp[Value.ownBlock])];exact hgg,r⟩
theorem OwnAt.kept{row:Option Nat}(h:OwnAt w e s v n xs)(hg:w.grownBy w' row)(hne:v.ownBlock=none\/v.ownBlock≠row):OwnAt w' e s v n xs:=
 h.same fun g hgv=>hg.block g (h.lt g hgv) (by
  rcases hne with hne | hne
  ·rw[hne]at hgv;cases hgv
  ·rw[<-hgv];exact hne)
theorem OwnAt.below{B:Nat}(h:OwnAt w e s v n xs)(hb:Below B w w')(hlt:∀g,v.ownBlock=some g->g<B):OwnAt w' e s v n xs:=
 h.same fun g hg=>hb.block g (hlt g hg)
theorem OwnAt.alloc(h:OwnAt w e s v n xs)(o:Obj):OwnAt (w.alloc o) e s v n xs:=h.same fun g hg=>Below.heap_alloc w o g (h.lt g hg)
theorem OwnAt.drew(h:OwnAt w e s v n xs):OwnAt w.drew e s v n xs:=h
theorem OwnAt.drewN(h:OwnAt w e s v n xs)(k:Nat):OwnAt (w.drewN k) e s v n xs:=h
theorem OwnAt.setCell(h:OwnAt w e s v n xs){p:Addr}(hp:v.ownBlock≠some p.block)(u:Value):OwnAt (w.setCell p u) e s v n xs:=
 h.same fun g hg=>Below.heap_setCell w p u g (fun e=>hp (by rw[hg,e]))
theorem OwnAt.form(h:OwnAt w e s v n xs):∃A c,v= .slice A n c:=by
 rcases h.2 with⟨rfl,rfl⟩ |⟨g,off,cap,cur,rfl,_⟩
 ·exact⟨_,_,rfl⟩
 ·exact⟨_,_,rfl⟩
theorem OwnAt.le(h:OwnAt w e s v n xs):n<=9223372036854775807:=by
 rcases h.2 with⟨rfl,rfl⟩ |⟨g,off,cap,cur,rfl,_,h1,h2,_⟩
 ·omega
 ·simp only[maxLen]at h2;omega
theorem OwnAt.of_new(w:World)(cur:Array Value)(n:Nat)(hs:cur.size=n*s)(hm:n<=maxLen):OwnAt (w.alloc (.cells cur e)) e s (.slice (some ⟨w.heap.size,0,none⟩) n n) n cur.toList:=
 ⟨by simpa using hs, .inr ⟨w.heap.size,0,n,cur,rfl,heap_alloc_new w _,zBJ _,hm,by omega,fun j u hu=>by simpa using hu⟩⟩
theorem OwnAt.slAt{α:Type}{R:World->Value->α->Prop}{A:Option Addr}{c:Nat}{ys:List α}(h:OwnAt w e 1 (.slice A n c) n xs)(hl:ys.length=xs.length)(hR:∀(k:Nat) (x:α) (u:Value),ys[k]? =some x->xs[k]? =some u->R w u x):SlAt R w A n ys:=by
 have hlen:=h.1;refine⟨by omega,h.le,fun k x hx=>?_⟩;have hk:k<ys.length:=(zAA.1 hx).1;have hk':k<xs.length:=by omega
 rcases h.2 with⟨h1,h2⟩ |⟨g,off,cap,cur,h1,hg,_,_,_,hcur⟩
 ·subst h2;omega
 ·injection h1 with h1 _ _
  refine⟨g,off,xs[k],h1,(gA hg).1,?_,hR k x _ hx (zAB hk')⟩;rw[cell_of_row w g _ cur e (0,0) hg];exact hcur k _ (zAB hk')
theorem OwnAt.slInts{A:Option Addr}{c:Nat}{q:IntKind}{ys:List Int}(h:OwnAt w e 1 (.slice A n c) n (ys.map (.int q))):SlAt (IntR q) w A n ys:=
 h.slAt (by simp) fun k x u hx hu=>by
  rw[zAW,hx]at hu;exact(zAH hu).symm
end
section
variable {P : Program} (w : World)
theorem aBl(g off:Nat)(j:Nat):(⟨g,off,none⟩:Addr).add j=⟨g,off+j,none⟩:=by unfold Addr.add;split <;> simp_all
theorem aJi(t ty e:TypeId)(i:TypeInfo)(z:Value)(s bytes:Nat)(ht:P.underlying t=some (.slice e))(hi:P.info? e=some i)(hz:i.zero=some z)
 (hsize:i.size=s) (hby:i.bytes=bytes) (hzs:z.cells.size=s)
 (v:Value) (n:Nat) (xs:List Value) (hown:OwnAt w e s v n xs)
 (a:Addr) (m c:Nat) (news:List Value) (hl:news.length=m*s) (hnews:∀j u,news[j]? =some u->w.cell? (a.add j)=some u) (h1:∀u∈news,u.oneCell'=true)
 (h63:n+m<=maxLen) (hbytes:(n+m)*bytes<=140737488355328):
 ∃v' w',(Builtin.append_ #[t,t] ty #[v, .slice (some a) m c]).run P w= .ok v' w'/\OwnAt w' e s v' (n+m) (xs ++ news)/\w.grownBy w' v.ownBlock/\
  (v'.ownBlock=v.ownBlock\/v'.ownBlock=some w.heap.size):=by
 subst hsize;subst hby;have hsmall:n+m<=9223372036854775807:=by simp only[maxLen]at h63;omega
 have hlen:(xs ++ news).length=(n+m)*i.size:=by rw[zAX,hown.1,hl,Nat.add_mul]
 have grown:∀(old:Nat),old<n+m->∀(row:Option Nat),
  OwnAt (w.drew.alloc (.cells (xs.toArray ++ news.toArray ++ Builtin.zeroCells z.cells (grownCap w (n+m) old e- (n+m))) e)) e i.size
   (.slice (some ⟨w.heap.size,0,none⟩) (n+m) (grownCap w (n+m) old e)) (n+m) (xs ++ news)/\
  w.grownBy (w.drew.alloc (.cells (xs.toArray ++ news.toArray ++ Builtin.zeroCells z.cells (grownCap w (n+m) old e- (n+m))) e)) row:=by
  intro old ho row;have hge:=grownCap_ge w (n+m) old e;have hcm:grownCap w (n+m) old e<=maxLen:=grownCap_le_maxLen w (n+m) old e h63;refine⟨⟨hlen, .inr ⟨w.heap.size,0,_,_,rfl,heap_alloc_new w.drew _,hge,hcm,?_,?_⟩⟩,⟨rfl,rfl,rfl,by simp,fun k hk _=>Below.heap_alloc w.drew _ k hk⟩⟩
  ·simp only[Array.size_append,List.size_toArray,size_zeroCells,hzs,hown.1,hl,<-Nat.add_mul];rw[zBH,Nat.add_sub_cancel' hge];exact zBJ _
  ·intro j u hu;have hj:j<(xs ++ news).length:=(zAA.1 hu).1;rw[zBH,zAR (by simpa using hj)];simpa using hu
 rcases hown.2 with⟨rfl,rfl⟩ |⟨g,off,cap,cur,rfl,hg,hnc,hcm,hcs,hcur⟩
 ·have hx:xs= []:=List.eq_nil_of_length_eq_zero (by simpa using hown.1);subst hx
  by_cases hm:m=0
  ·subst hm;have hn:news= []:=List.eq_nil_of_length_eq_zero (by simpa using hl);subst hn;refine⟨.slice none 0 0,w,?_,OwnAt.nil_ w e i.size,⟨rfl,rfl,rfl,zBJ _,fun _ _ _=>rfl⟩, .inl rfl⟩;simp[Builtin.append_,run_underlying ht,sizeOf,typeInfo,hi,Builtin.lenOf,Builtin.firstCells,loadCells,loadCellsFrom]
  ·have hr:=run_append_nil (P:=P) w t ty e i z ht hi hz a m c news hl hnews (by omega) (by omega) (by have hb:=hbytes;simp only[zBH]at hb;omega);have hgr:=grown 0 (by omega) (Value.ownBlock (.slice none 0 0));simp only[zBH,List.nil_append,Array.empty_append]at hgr⊢;exact⟨_,_,hr,hgr.1,hgr.2, .inr rfl⟩
 ·by_cases hroom:n+m<=cap
  ·have hxl:=hown.1;have hmul:n*i.size+m*i.size<=cap*i.size:=by rw[<-Nat.add_mul];exact Nat.mul_le_mul_right _ hroom
   have hf:=run_firstCells_some (P:=P) w i.size m a m c news hl hnews;have hst:=run_storeCells_at P g (off+n*i.size) e news 0 cur w hg (by omega) h1;simp only[zBI]at hst;refine⟨.slice (some ⟨g,off,none⟩) (n+m) cap,w.setRow g (cur.toList.take (off+n*i.size)++ news ++ cur.toList.drop (off+n*i.size+news.length)).toArray,?_,⟨hlen, .inr ⟨g,off,cap,_,rfl,setRow_heap w g cur _ e _ hg,hroom,hcm,?_,?_⟩⟩,
    ⟨rfl,rfl,rfl,by simp,fun k _ hk=>setRow_other w g k _ (fun e=>hk (by simp[Value.ownBlock,e]))⟩, .inl rfl⟩
   ·simp[Builtin.append_,run_underlying ht,sizeOf,typeInfo,hi,Builtin.lenOf,hroom,hf,aBl,hst]
   ·simp only[List.size_toArray,zAX,zAZ,List.length_drop,Array.length_toList];omega
   ·intro j u hu;have hj:j<(xs ++ news).length:=(zAA.1 hu).1;rw[zAX]at hj;have hs':off+cap*i.size<=cur.toList.length:=by simpa using hcs
    by_cases hjx:j<n*i.size
    ·rw[zAE (by omega)]at hu;have:=hcur j u hu;simp only[zAV];rw[zBT,zAE (by simp;omega),zBB,if_pos (by omega)];simpa using this
    ·rw[zAF (by omega)]at hu;simp only[zAV];rw[zBT,zAF (by simp;omega),zAE (by simp;omega)];rw[<-hu]
     congr 1
     simp;omega
  ·have hholds:∀j u,xs[j]? =some u->w.cell? ((⟨g,off,none⟩:Addr).add j)=some u:=by
    intro j u hu;rw[aBl,cell_of_row w g _ cur e (0,0) hg];exact hcur j u hu
   have hr:=run_append_grow (P:=P) w t ty e i z ht hi hz ⟨g,off,none⟩ n cap xs hown.1 hholds a m c news hl hnews (by omega) (by omega) (growslice_fits (by omega) hbytes);have hgr:=grown cap (by omega) (Value.ownBlock (.slice (some ⟨g,off,none⟩) n cap));exact⟨_,_,hr,hgr.1,hgr.2, .inr rfl⟩
theorem aDx{o:Oper}{a:Act}{K:Act->World->Prop}{Q:Exit->Act->World->Prop}(sx x:Operand)(t:TypeId)
 (ho:o.op= .call {callee:= .builtin .append,args:= #[sx,x],argTypes:= #[t,t]})
 (e:TypeId) (i:TypeInfo) (z:Value) (s bytes:Nat) (ht:P.underlying t=some (.slice e)) (hi:P.info? e=some i) (hz:i.zero=some z)
 (hsize:i.size=s) (hby:i.bytes=bytes) (hzs:z.cells.size=s)
 (v:Value) (n:Nat) (xs:List Value) (hs:a.eval sx=v) (hown:OwnAt w e s v n xs)
 (ad:Addr) (m c:Nat) (news:List Value) (hx:a.eval x= .slice (some ad) m c) (hl:news.length=m*s) (hnews:∀j u,news[j]? =some u->w.cell? (ad.add j)=some u) (h1:∀u∈news,u.oneCell'=true)
 (h63:n+m<=maxLen) (hbytes:(n+m)*bytes<=140737488355328)
 (h:∀v' w',OwnAt w' e s v' (n+m) (xs ++ news)->w.grownBy w' v.ownBlock->(v'.ownBlock=v.ownBlock\/v'.ownBlock=some w.heap.size)->K (a.put o.dst v') w'):o.wp P a w K Q:=by
 obtain⟨v',w',hr,h2,h3,h4⟩:=aJi (P:=P) w t o.type e i z s bytes ht hi hz hsize hby hzs v n xs hown ad m c news hl hnews h1 h63 hbytes;unfold Oper.wp execOp;simp only[ho,resolve,invoke,builtin,Sem.run_bind,Sem.run_pure,Result.andThen_ok,List.map_toArray,List.map_cons,List.map_nil,hs,hx,hr];exact h v' w' h2 h3 h4
theorem aHb{ops:Array Oper}{rest:List Oper}{o:Oper}{a:Act}{Q:Exit->Act->World->Prop}(hgd:o.guard=none)(sx x:Operand)(t:TypeId)
 (ho:o.op= .call {callee:= .builtin .append,args:= #[sx,x],argTypes:= #[t,t]})
 (e:TypeId) (i:TypeInfo) (z:Value) (s bytes:Nat) (ht:P.underlying t=some (.slice e)) (hi:P.info? e=some i) (hz:i.zero=some z)
 (hsize:i.size=s) (hby:i.bytes=bytes) (hzs:z.cells.size=s)
 (v:Value) (n:Nat) (xs:List Value) (hs:a.eval sx=v) (hown:OwnAt w e s v n xs)
 (ad:Addr) (m c:Nat) (news:List Value) (hx:a.eval x= .slice (some ad) m c) (hl:news.length=m*s) (hnews:∀j u,news[j]? =some u->w.cell? (ad.add j)=some u) (h1:∀u∈news,u.oneCell'=true)
 (h63:n+m<=maxLen) (hbytes:(n+m)*bytes<=140737488355328)
 (h:∀v' w',OwnAt w' e s v' (n+m) (xs ++ news)->w.grownBy w' v.ownBlock->(v'.ownBlock=v.ownBlock\/v'.ownBlock=some w.heap.size)->wpList P ops Q rest (a.put o.dst v') w'):wpList P ops Q (o :: rest) a w:=
 wpList_plain hgd fun _ hK=>aDx w sx x t ho e i z s bytes ht hi hz hsize hby hzs v n xs hs hown ad m c news hx hl hnews h1 h63 hbytes fun v' w' h2 h3 h4=>hK _ _ (h v' w' h2 h3 h4)
theorem aAk{ops:Array Oper}{rest:List Oper}{o:Oper}{a:Act}{Q:Exit->Act->World->Prop}(hgd:o.guard=none)(sx x:Operand)(t:TypeId)
 (ho:o.op= .call {callee:= .builtin .append,args:= #[sx,x],argTypes:= #[t,t]})
 (e:TypeId) (z:Value) (bytes:Nat) (ht:P.underlying t=some (.slice e)) (hinfo:(P.info? e).map (fun i=>(i.zero,i.size,i.bytes))=some (some z,1,bytes)) (hzs:z.cells.size=1)
 (v:Value) (n:Nat) (xs:List Value) (hs:a.eval sx=v) (hown:OwnAt w e 1 v n xs) (u:Value) (h1:u.oneCell'=true) (E:TypeId)
 (hx:a.eval x= .slice (some ⟨w.heap.size,0,none⟩) 1 1) (hn:n<=1000000000) (hb:bytes<=64)
 (h:∀v' w',OwnAt w' e 1 v' (n+1) (xs ++ [u])->(w.alloc (.cells #[u] E)).grownBy w' v.ownBlock->(v'.ownBlock=v.ownBlock\/v'.ownBlock=some (w.heap.size+1))->wpList P ops Q rest (a.put o.dst v') w'):
 wpList P ops Q (o :: rest) a (w.alloc (.cells #[u] E)):=by
 obtain⟨i,hi,hz,hsz,hby⟩:=info_parts hinfo;have hmul:(n+1)*bytes<=(n+1)*64:=Nat.mul_le_mul_left _ hb;refine aHb _ hgd sx x t ho e i z 1 bytes ht hi hz hsz hby hzs v n xs hs (hown.alloc _) _ 1 1 [u] hx rfl (cell_one_new _ _ _) (by simpa using h1) (by simp only[maxLen];omega) (by omega) ?_;intro v' w' h2 h3 h4;exact h v' w' h2 h3 (by simpa using h4)
theorem aOe(t ty e:TypeId)(i:TypeInfo)(z:Value)(s bytes:Nat)(ht:P.underlying t=some (.slice e))(hi:P.info? e=some i)(hz:i.zero=some z)
 (hsize:i.size=s) (hby:i.bytes=bytes) (hzs:z.cells.size=s) (hs0:0<s)
 (v:Value) (n:Nat) (xs:List Value) (hown:OwnAt w e s v n xs)
 (A:Option Addr) (m c:Nat) (news:List Value) (hl:news.length=m*s) (hnews:∀j u,news[j]? =some u->∃ad:Addr,A=some ad/\w.cell? (ad.add j)=some u) (h1:∀u∈news,u.oneCell'=true)
 (h63:n+m<=maxLen) (hbytes:(n+m)*bytes<=140737488355328):
 ∃v' w',(Builtin.append_ #[t,t] ty #[v, .slice A m c]).run P w= .ok v' w'/\OwnAt w' e s v' (n+m) (xs ++ news)/\w.grownBy w' v.ownBlock/\
  (v'.ownBlock=v.ownBlock\/v'.ownBlock=some w.heap.size):=by
 cases A with
 | some a=>
  refine aJi w t ty e i z s bytes ht hi hz hsize hby hzs v n xs hown a m c news hl (fun j u hu=>?_) h1 h63 hbytes;obtain⟨ad,he,hc⟩:=hnews j u hu;cases he;exact hc
 | none=>
  have hn:news= []:=by
   cases news with
   | nil=>rfl
   | cons u r=>obtain⟨_,he,_⟩:=hnews 0 u rfl;cases he
  subst hn;have hm:m=0:=by
   rcases Nat.eq_zero_or_pos m with h0 | h0
   ·exact h0
   ·have:=Nat.mul_pos h0 hs0;simp at hl;omega
  subst hm;refine⟨v,w,?_,by simpa using hown,⟨rfl,rfl,rfl,zBJ _,fun _ _ _=>rfl⟩, .inl rfl⟩;rcases hown.2 with⟨rfl,rfl⟩ |⟨g,off,cap,cur,rfl,_,hnc,_⟩
  ·simp[Builtin.append_,run_underlying ht,sizeOf,typeInfo,hi,Builtin.lenOf,Builtin.firstCells]
  ·simp[Builtin.append_,run_underlying ht,sizeOf,typeInfo,hi,Builtin.lenOf,Builtin.firstCells,hnc,storeCells]
theorem aJj{o:Oper}{a:Act}{K:Act->World->Prop}{Q:Exit->Act->World->Prop}(sx x:Operand)(t:TypeId)
 (ho:o.op= .call {callee:= .builtin .append,args:= #[sx,x],argTypes:= #[t,t]})
 (e:TypeId) (z:Value) (s bytes:Nat) (ht:P.underlying t=some (.slice e)) (hinfo:(P.info? e).map (fun i=>(i.zero,i.size,i.bytes))=some (some z,s,bytes)) (hzs:z.cells.size=s) (hs0:0<s)
 (v:Value) (n:Nat) (xs:List Value) (hs:a.eval sx=v) (hown:OwnAt w e s v n xs)
 (A:Option Addr) (m c:Nat) (news:List Value) (hx:a.eval x= .slice A m c) (hl:news.length=m*s) (hnews:∀j u,news[j]? =some u->∃ad:Addr,A=some ad/\w.cell? (ad.add j)=some u) (h1:∀u∈news,u.oneCell'=true)
 (hn:n+m<=1000000000) (hb:bytes<=64)
 (h:∀v' w',OwnAt w' e s v' (n+m) (xs ++ news)->w.grownBy w' v.ownBlock->(v'.ownBlock=v.ownBlock\/v'.ownBlock=some w.heap.size)->K (a.put o.dst v') w'):o.wp P a w K Q:=by
 obtain⟨i,hi,hz,hsz,hby⟩:=info_parts hinfo;have hmul:(n+m)*bytes<=(n+m)*64:=Nat.mul_le_mul_left _ hb;obtain⟨v',w',hr,h2,h3,h4⟩:=aOe (P:=P) w t o.type e i z s bytes ht hi hz hsz hby hzs hs0 v n xs hown A m c news hl hnews h1 (by simp only[maxLen];omega) (by omega);unfold Oper.wp execOp;simp only[ho,resolve,invoke,builtin,Sem.run_bind,Sem.run_pure,Result.andThen_ok,List.map_toArray,List.map_cons,List.map_nil,hs,hx,hr];exact h v' w' h2 h3 h4
theorem aBv{ops:Array Oper}{rest:List Oper}{o:Oper}{a:Act}{Q:Exit->Act->World->Prop}(hgd:o.guard=none)(sx x:Operand)(t:TypeId)
 (ho:o.op= .call {callee:= .builtin .append,args:= #[sx,x],argTypes:= #[t,t]})
 (e:TypeId) (z:Value) (s bytes:Nat) (ht:P.underlying t=some (.slice e)) (hinfo:(P.info? e).map (fun i=>(i.zero,i.size,i.bytes))=some (some z,s,bytes)) (hzs:z.cells.size=s) (hs0:0<s)
 (v:Value) (n:Nat) (xs:List Value) (hs:a.eval sx=v) (hown:OwnAt w e s v n xs)
 (A:Option Addr) (m c:Nat) (news:List Value) (hx:a.eval x= .slice A m c) (hl:news.length=m*s) (hnews:∀j u,news[j]? =some u->∃ad:Addr,A=some ad/\w.cell? (ad.add j)=some u) (h1:∀u∈news,u.oneCell'=true)
 (hn:n+m<=1000000000) (hb:bytes<=64)
 (h:∀v' w',OwnAt w' e s v' (n+m) (xs ++ news)->w.grownBy w' v.ownBlock->(v'.ownBlock=v.ownBlock\/v'.ownBlock=some w.heap.size)->wpList P ops Q rest (a.put o.dst v') w'):wpList P ops Q (o :: rest) a w:=
 wpList_plain hgd fun _ hK=>aJj w sx x t ho e z s bytes ht hinfo hzs hs0 v n xs hs hown A m c news hx hl hnews h1 hn hb fun v' w' h2 h3 h4=>hK _ _ (h v' w' h2 h3 h4)
theorem aBp{ops:Array Oper}{o:Oper}{a:Act}{K:Act->World->Prop}{Q:Exit->Act->World->Prop}{E:Prop}(hgd:o.guard=none)(sx x:Operand)(t:TypeId)
 (ho:o.op= .call {callee:= .builtin .append,args:= #[sx,x],argTypes:= #[t,t]})
 (e:TypeId) (z:Value) (s bytes:Nat) (ht:P.underlying t=some (.slice e)) (hinfo:(P.info? e).map (fun i=>(i.zero,i.size,i.bytes))=some (some z,s,bytes)) (hzs:z.cells.size=s) (hs0:0<s)
 (v:Value) (n:Nat) (xs:List Value) (hs:a.eval sx=v) (hown:OwnAt w e s v n xs)
 (A:Option Addr) (m c:Nat) (news:List Value) (hx:a.eval x= .slice A m c) (hl:news.length=m*s) (hnews:∀j u,news[j]? =some u->∃ad:Addr,A=some ad/\w.cell? (ad.add j)=some u) (h1:∀u∈news,u.oneCell'=true)
 (hn:n+m<=1000000000) (hb:bytes<=64)
 (h:∀v' w',OwnAt w' e s v' (n+m) (xs ++ news)->w.grownBy w' v.ownBlock->(v'.ownBlock=v.ownBlock\/v'.ownBlock=some w.heap.size)->K (a.put o.dst v') w'):
 if Region.wanted o (yielded ops a.tmps)=true then Oper.wp P o a w K Q else E:=by
 rw[if_pos (by simp[Region.wanted,hgd])];exact aJj w sx x t ho e z s bytes ht hinfo hzs hs0 v n xs hs hown A m c news hx hl hnews h1 hn hb h
theorem aQa(z:Value)(n:Nat):madeCells #[z] n=Array.replicate n z:=by
 apply Array.ext
 ·simp[size_madeCells]
 ·intro i h1 h2;simp[madeCells,Nat.mod_one]
theorem aBd(t e:TypeId)(z:Value)(bytes:Nat)(ht:P.underlying t=some (.slice e))(hinfo:(P.info? e).map (fun i=>(i.zero,i.size,i.bytes))=some (some z,1,bytes))(hz:z.cells= #[z])
 (kl kc:IntKind) (n:Nat) (C:Int) (hC:C=n) (hn:n<=1000000000) (hb:bytes<=64) (W:World):
 (Instr.makeSlice t (.int kl C) (.int kc C)).run P W= .ok (.slice (some ⟨W.heap.size,0,none⟩) n n) (W.alloc (.cells (Array.replicate n z) e)):=by
 obtain⟨i,hi,hzz,hsz,hby⟩:=info_parts hinfo;subst hC;have hmul:i.bytes*n<=64*n:=Nat.mul_le_mul_right _ (by rw[hby];exact hb);have hbi:(i.bytes:Int)* (n:Int)<=281474976710656:=by
  have h:((i.bytes*n:Nat):Int)<=281474976710656:=by omega
  rwa [Int.natCast_mul]at h
 have hr:=run_make (P:=P) W t e i z ht hi hzz kl kc n n (by omega) (by omega) hbi (by omega);simp only[zBA,hsz,Nat.mul_one,hz,aQa]at hr;exact hr
end
end
end Go.Proofs.YtchdbhggbdcapaaGreat
section
section
namespace Go.Proofs.YtchdbhggbdcapaaGreat.B
def pw(n:Int):Int:=2 ^ n.toNat
def sg(n a:Int):Int:=if pw (n-1)<=a then a-pw n else a
def isWd(n:Int):Bool:=decide (1<=n) && decide (n<=32)
def isW(n a:Int):Bool:=isWd n && decide (a<pw n)
theorem aBr(n:Int):0<pw n:=Int.pow_pos (by decide)
theorem aDa(n:Int):pw n=((2 ^ n.toNat:Nat):Int):=by unfold pw;simp
theorem aUx{m n:Int}(h:m<=n):pw m<=pw n:=by
 rw[aDa,aDa];exact Int.ofNat_le.2 (zAJ (by decide) (by omega))
theorem pw_32:pw 32=4294967296:=by decide
theorem pw_le{n:Int}(h:n<=32):pw n<=4294967296:=by rw[<-pw_32];exact aUx h
theorem aEf{n:Int}(h:n<=31):pw n<=2147483648:=by
 have:=aUx h;have e:pw 31=2147483648:=by decide
 omega
theorem aF0{n:Int}(h:1<=n):pw n=2*pw (n-1):=by
 unfold pw;have:n.toNat=(n-1).toNat+1:=by omega
 rw[this,Int.pow_succ];omega
theorem aM0{n:Int}(h:1<=n):2<=pw n:=by have:=aBr (n-1);rw[aF0 h];omega
theorem bEn{m n:Int}(h:m<=n):pw m∣pw n:=by
 unfold pw;rw[show n.toNat=m.toNat+(n.toNat-m.toNat) by omega,Int.pow_add];exact Int.dvd_mul_right _ _
theorem bDe{n:Int}(x:Int)(h:n<=32):x % 4294967296 % pw n=x % pw n:=by
 rw[<-pw_32];exact Int.emod_emod_of_dvd x (bEn h)
theorem aBj{n:Int}:isWd n=true↔1<=n/\n<=32:=by unfold isWd;simp
theorem aG0{n a:Int}:isW n a=true↔1<=n/\n<=32/\a<pw n:=by unfold isW;simp[aBj,and_assoc]
theorem sg_lo{n a:Int}(h:1<=n)(h0:0<=a): -pw (n-1)<=sg n a:=by
 have:=aF0 h;have:=aBr (n-1);unfold sg;split <;> omega
theorem sg_hi{n a:Int}(h:1<=n)(h1:a<pw n):sg n a<pw (n-1):=by
 have:=aF0 h;have:=aBr (n-1);unfold sg;split <;> omega
theorem aQw{n a:Int}:sg n a % pw n=a % pw n:=by
 unfold sg;split
 ·exact Int.sub_emod_right a (pw n)
 ·rfl
theorem aH8{n a:Int}(h:1<=n)(h0:0<=a)(h1:a<pw n):sg n a=0↔a=0:=by
 have:=aF0 h;have:=aBr (n-1);unfold sg;split <;> omega
def do_(op n a b:Int):Option Int:=
 if op=1 then some ((a+b) % pw n)
 else if op=2 then some ((a-b) % pw n)
 else if op=3 then some ((a*b) % pw n)
 else if op=4 then(if b=0 then none else some (a / b))
 else if op=5 then(if b=0 then none else some (a % b))
 else if op=6 then(if b=0\/(sg n a= -pw (n-1)/\sg n b= -1)then none else some ((sg n a).tdiv (sg n b) % pw n))
 else if op=7 then(if b=0\/(sg n a= -pw (n-1)/\sg n b= -1)then none else some ((sg n a).tmod (sg n b) % pw n))
 else if op=8 then some ((a.toNat &&& b.toNat:Nat):Int)
 else if op=9 then some ((a.toNat ||| b.toNat:Nat):Int)
 else if op=10 then some ((a.toNat ^^^ b.toNat:Nat):Int)
 else if op=11 then(if n<=b then none else some (a*pw b % pw n))
 else if op=12 then(if n<=b then none else some (a / pw b))
 else(if n<=b then none else some (sg n a / pw b % pw n))
def els(op n a b:Int):Int:=
 if op=4 then pw n-1
 else if op=5 then a
 else if op=6 then(if b≠0 then a else if sg n a<0 then 1 else pw n-1)
 else if op=7 then(if b≠0 then 0 else a)
 else if op=13 then(if sg n a<0 then pw n-1 else 0)
 else 0
def full(op n a b:Int):Int:=(do_ op n a b).getD (els op n a b)
def okOp(op n a b:Int):Bool:=decide (1<=op) && decide (op<=13) && isW n a && isW n b
def total(op n a b:Int):Int×Int:=if okOp op n a b=true then(full op n a b,0)else(0,1)
theorem aOf{n:Int}{a b:Int}(h0:0<=a)(h1:a<pw n):(a.toNat &&& b.toNat:Nat) < pw n:=by
 rw[aDa]at*;exact Int.ofNat_lt.2 (Nat.lt_of_le_of_lt Nat.and_le_left (by omega))
theorem aQx{n:Int}{a b:Int}(h1:a<pw n)(h2:b<pw n):(a.toNat ||| b.toNat:Nat) < pw n:=by
 rw[aDa]at*;exact Int.ofNat_lt.2 (Nat.or_lt_two_pow (by have:=Nat.two_pow_pos n.toNat;omega) (by have:=Nat.two_pow_pos n.toNat;omega))
theorem aOg{n:Int}{a b:Int}(h1:a<pw n)(h2:b<pw n):(a.toNat ^^^ b.toNat:Nat) < pw n:=by
 rw[aDa]at*;exact Int.ofNat_lt.2 (Nat.xor_lt_two_pow (by have:=Nat.two_pow_pos n.toNat;omega) (by have:=Nat.two_pow_pos n.toNat;omega))
theorem aHc{x n:Int}:0<=x % pw n:=Int.emod_nonneg _ (by have:=aBr n;omega)
theorem aHd{x n:Int}:x % pw n<pw n:=Int.emod_lt_of_pos _ (aBr n)
section
variable (n a b : Int)
theorem do_1:do_ 1 n a b=some ((a+b) % pw n):=rfl
theorem do_2:do_ 2 n a b=some ((a-b) % pw n):=rfl
theorem do_3:do_ 3 n a b=some ((a*b) % pw n):=rfl
theorem do_4:do_ 4 n a b=(if b=0 then none else some (a / b)):=rfl
theorem do_5:do_ 5 n a b=(if b=0 then none else some (a % b)):=rfl
theorem do_6:do_ 6 n a b=(if b=0\/(sg n a= -pw (n-1)/\sg n b= -1)then none else some ((sg n a).tdiv (sg n b) % pw n)):=rfl
theorem do_7:do_ 7 n a b=(if b=0\/(sg n a= -pw (n-1)/\sg n b= -1)then none else some ((sg n a).tmod (sg n b) % pw n)):=rfl
theorem do_8:do_ 8 n a b=some ((a.toNat &&& b.toNat:Nat):Int):=rfl
theorem do_9:do_ 9 n a b=some ((a.toNat ||| b.toNat:Nat):Int):=rfl
theorem do_10:do_ 10 n a b=some ((a.toNat ^^^ b.toNat:Nat):Int):=rfl
theorem do_11:do_ 11 n a b=(if n<=b then none else some (a*pw b % pw n)):=rfl
theorem do_12:do_ 12 n a b=(if n<=b then none else some (a / pw b)):=rfl
theorem do_13:do_ 13 n a b=(if n<=b then none else some (sg n a / pw b % pw n)):=rfl
end
theorem aHe{op:Int}(h:1<=op)(h':op<=13):op=1\/op=2\/op=3\/op=4\/op=5\/op=6\/op=7\/op=8\/op=9\/op=10\/op=11\/op=12\/op=13:=by omega
theorem aO7{op n a b:Int}(ho:1<=op)(ho':op<=13)(hn:1<=n)(ha0:0<=a)(ha:a<pw n)(hb0:0<=b)(hb:b<pw n):0<=full op n a b/\full op n a b<pw n:=by
 have h1:=aM0 hn;have hand:=aOf (n:=n) (b:=b) ha0 ha;have hor:=aQx (n:=n) ha hb;have hxor:=aOg (n:=n) ha hb;have hq:0<=a / b/\a / b<=a:=⟨Int.ediv_nonneg ha0 hb0,Int.ediv_le_self b ha0⟩;have hs:0<=a / pw b/\a / pw b<=a:=⟨Int.ediv_nonneg ha0 (by have:=aBr b;omega),Int.ediv_le_self _ ha0⟩;have hels:0<=els op n a b/\els op n a b<pw n:=by
  unfold els
  repeat' split
  all_goals omega
 have key:∀r,do_ op n a b=r->0<=r.getD (els op n a b)/\r.getD (els op n a b) < pw n:=by
  intro r hr;rcases aHe ho ho' with rfl | rfl | rfl | rfl | rfl | rfl | rfl | rfl | rfl | rfl | rfl | rfl | rfl
  ·rw[do_1]at hr;subst hr;exact⟨aHc,aHd⟩
  ·rw[do_2]at hr;subst hr;exact⟨aHc,aHd⟩
  ·rw[do_3]at hr;subst hr;exact⟨aHc,aHd⟩
  ·rw[do_4]at hr;split at hr <;> subst hr
   ·exact hels
   ·simp only[Option.getD_some];omega
  ·rw[do_5]at hr;split at hr <;> subst hr
   ·exact hels
   ·simp only[Option.getD_some];have:=Int.emod_lt_of_pos a (show 0<b by omega);have:=Int.emod_nonneg a (show b≠0 by omega);omega
  ·rw[do_6]at hr;split at hr <;> subst hr
   ·exact hels
   ·exact⟨aHc,aHd⟩
  ·rw[do_7]at hr;split at hr <;> subst hr
   ·exact hels
   ·exact⟨aHc,aHd⟩
  ·rw[do_8]at hr;subst hr;simp only[Option.getD_some];omega
  ·rw[do_9]at hr;subst hr;simp only[Option.getD_some];omega
  ·rw[do_10]at hr;subst hr;simp only[Option.getD_some];omega
  ·rw[do_11]at hr;split at hr <;> subst hr
   ·exact hels
   ·exact⟨aHc,aHd⟩
  ·rw[do_12]at hr;split at hr <;> subst hr
   ·exact hels
   ·simp only[Option.getD_some];omega
  ·rw[do_13]at hr;split at hr <;> subst hr
   ·exact hels
   ·exact⟨aHc,aHd⟩
 exact key _ rfl
end Go.Proofs.YtchdbhggbdcapaaGreat.B
end
section
namespace Go.Proofs.YtchdbhggbdcapaaGreat
open _root_.Go.Proofs.Tryz
open Go.RowKit Go.MapKept Go.Maps
namespace AL
variable {κ α : Type} [DecidableEq κ]
def get:List (κ×α)->κ->Option α
 | [],_=>none
 | p :: l,k=>if p.1=k then some p.2 else get l k
def put:List (κ×α)->κ->α->List (κ×α)
 | [],k,a=> [(k,a)]
 | p :: l,k,a=>if p.1=k then(k,a) :: l else p :: put l k a
theorem get_none{l:List (κ×α)}{k:κ}(h:∀p∈l,p.1≠k):get l k=none:=by
 induction l with
 | nil=>rfl
 | cons p l ih=>rw[get,if_neg (h p (by simp)),ih (fun q hq=>h q (by simp[hq]))]
theorem get_some{l:List (κ×α)}{k:κ}{a:α}{j:Nat}(hd:(l.map Prod.fst).Nodup)(h:l[j]? =some (k,a)):get l k=some a:=by
 induction l generalizing j with
 | nil=>simp at h
 | cons p l ih=>
  rw[List.map_cons,List.nodup_cons]at hd;cases j with
  | zero=>simp at h;subst h;simp[get]
  | succ j=>
   simp at h;have hm:k∈l.map Prod.fst:=zBU.2 ⟨(k,a),zAC h,rfl⟩;rw[get,if_neg (fun e=>hd.1 (by rw[e];exact hm))];exact ih hd.2 h
theorem put_none{l:List (κ×α)}{k:κ}(h:∀p∈l,p.1≠k)(a:α):put l k a=l ++ [(k,a)]:=by
 induction l with
 | nil=>rfl
 | cons p l ih=>rw[put,if_neg (h p (by simp)),ih (fun q hq=>h q (by simp[hq]))];rfl
theorem put_some{l:List (κ×α)}{k:κ}{a0:α}{j:Nat}(hd:(l.map Prod.fst).Nodup)(h:l[j]? =some (k,a0))(a:α):put l k a=l.set j (k,a):=by
 induction l generalizing j with
 | nil=>simp at h
 | cons p l ih=>
  rw[List.map_cons,List.nodup_cons]at hd;cases j with
  | zero=>simp at h;subst h;simp[put]
  | succ j=>
   simp at h;have hm:k∈l.map Prod.fst:=zBU.2 ⟨(k,a0),zAC h,rfl⟩;rw[put,if_neg (fun e=>hd.1 (by rw[e];exact hm)),ih hd.2 h];rfl
theorem get_put_same(l:List (κ×α))(k:κ)(a:α):get (put l k a) k=some a:=by
 induction l with
 | nil=>simp[put,get]
 | cons p l ih=>unfold put;split <;> simp_all[get]
theorem get_put_other(l:List (κ×α)){k k':κ}(a:α)(h:k'≠k):get (put l k a) k'=get l k':=by
 induction l with
 | nil=>simp[put,get,Ne.symm h]
 | cons p l ih=>
  unfold put;split
  ·rename_i e;simp[get,e,Ne.symm h]
  ·simp only[get,ih]
end AL
def aQy{κ α:Type}(P:Program)(kt:TypeId)(ek:κ->Value)(R:World->κ->Value->α->Prop)(w:World)(es:Array MapEntry)(l:List (κ×α)):Prop:=
 ∀(i:Nat) (k:κ) (a:α),l[i]? =some (k,a)->∃e:MapEntry,es.toList[i]? =some e/\e.key=ek k/\R w k e.val a/\∃kl,keyOf P kt (ek k)=some kl
def MapAt{κ α:Type}(P:Program)(kt:TypeId)(ek:κ->Value)(R:World->κ->Value->α->Prop)(w:World)(b:Nat)(l:List (κ×α)):Prop:=
 ∃(es:Array MapEntry) (clock:Nat),w.heap[b]? =some (.map es clock)/\Stamped es clock/\es.toList.length=l.length/\
  aQy P kt ek R w es l
section
variable {κ α : Type} {P : Program} {kt et t : TypeId} {ek : κ -> Value} {R : World -> κ -> Value -> α -> Prop} {w w' : World} {b : Nat} {l : List (κ × α)}
theorem MapAt.lt(h:MapAt P kt ek R w b l):b<w.heap.size:=by
 obtain⟨es,clock,hb,_⟩:=h;exact(gA hb).1
theorem MapAt.made(w:World):MapAt P kt ek R (w.alloc (.map #[] 0)) w.heap.size []:=
 ⟨#[],0,heap_alloc_new w _,stamped_empty 0,by simp,by intro i k a h;simp at h⟩
theorem MapAt.keep{R':World->κ->Value->α->Prop}(h:MapAt P kt ek R w b l)(hb:w'.heap[b]? =w.heap[b]?)(hR:∀k u a,R w k u a->R' w' k u a):MapAt P kt ek R' w' b l:=by
 obtain⟨es,clock,h1,h2,h3,h4⟩:=h;refine⟨es,clock,hb.trans h1,h2,h3,fun i k a hi=>?_⟩;obtain⟨e,e1,e2,e3,e4⟩:=h4 i k a hi;exact⟨e,e1,e2,hR _ _ _ e3,e4⟩
theorem aLn{es:Array MapEntry}(hl:es.toList.length=l.length){j:Nat}{e:MapEntry}(he:es.toList[j]? =some e):∃k a,l[j]? =some (k,a):=by
 have hj:j<l.length:=by rw[<-hl];exact(zAA.1 he).1
 exact⟨l[j].1,l[j].2,zAB hj⟩
theorem aTc{es:Array MapEntry}{clock:Nat}(hs:Stamped es clock)(hl:es.toList.length=l.length)
 (h4:aQy P kt ek R w es l):(l.map Prod.fst).Nodup:=by
 have hp:=((stamped_iff es clock).1 hs).2.2;rw[List.Nodup,List.pairwise_map,List.pairwise_iff_getElem];intro i j hi hj hij e;rw[List.pairwise_iff_getElem]at hp;obtain⟨ei,h1,h2,_⟩:=h4 i l[i].1 l[i].2 (zAB hi);obtain⟨ej,h3,h5,_⟩:=h4 j l[j].1 l[j].2 (zAB hj);have:=hp i j (by omega) (by omega) hij;rw[zAB (by omega)]at h1 h3;rw[zAH h1,zAH h3,h2,h5,e]at this;exact this rfl
theorem MapAt.find(h:MapAt P kt ek R w b l)(K:Keyed P kt)(hinj:∀a b,ek a=ek b->a=b){k:κ}{kl:Lit}(hkey:keyOf P kt (ek k)=some kl):
 ∃(es:Array MapEntry) (clock:Nat),w.heap[b]? =some (.map es clock)/\Stamped es clock/\es.toList.length=l.length/\(l.map Prod.fst).Nodup/\
  aQy P kt ek R w es l/\
  (((Instr.findKey kt (ek k) es.toList).run P w= .ok none w/\(∀e∈es.toList,e.key≠ek k)/\∀p∈l,p.1≠k)\/
   ∃j e a,(Instr.findKey kt (ek k) es.toList).run P w= .ok (some (j,e.val)) w/\es.toList[j]? =some e/\e.key=ek k/\l[j]? =some (k,a)/\R w k e.val a):=by
 obtain⟨es,clock,hb,hs,hl,h4⟩:=h;have hd:=aTc hs hl h4;have hkeys:∀e∈es.toList,∃l,keyOf P kt e.key=some l:=by
  intro e he;obtain⟨j,hj,rfl⟩:=List.mem_iff_getElem.1 he;obtain⟨k',a,hka⟩:=aLn hl (zAB hj);obtain⟨e',h1,h2,_,kl',h5⟩:=h4 j k' a hka;rw[zAB hj]at h1;exact⟨kl',by rw[zAH h1,h2];exact h5⟩
 refine⟨es,clock,hb,hs,hl,hd,h4,?_⟩;rcases K.find w hkey es.toList hkeys with⟨h1,h2⟩ |⟨j,e,h1,h2,h3⟩
 ·refine .inl ⟨h1,h2,fun p hp e=>?_⟩;obtain⟨i,hi,rfl⟩:=List.mem_iff_getElem.1 hp;obtain⟨e',g1,g2,_⟩:=h4 i l[i].1 l[i].2 (zAB hi);exact h2 e' (zAC g1) (by rw[g2,e])
 ·obtain⟨k',a,hka⟩:=aLn hl h2;obtain⟨e',g1,g2,g3,_⟩:=h4 j k' a hka;rw[h2]at g1;obtain rfl:=zAH g1;obtain rfl:k'=k:=hinj _ _ (by rw[<-g2,h3]);exact .inr ⟨j,e,a,h1,h2,h3,hka,g3⟩
variable [DecidableEq κ]
theorem MapAt.lookup(h:MapAt P kt ek R w b l)(K:Keyed P kt)(hinj:∀a b,ek a=ek b->a=b)(ht:P.underlying t=some (.map kt et)){z:Value}(hz:(zeroValue et).run P w= .ok z w){k:κ}{kl:Lit}(hkey:keyOf P kt (ek k)=some kl):
 ∃u,(Instr.lookup t (.map (some b)) (ek k) false).run P w= .ok u w/\(Instr.lookup t (.map (some b)) (ek k) true).run P w= .ok (.tuple #[u, .bool (AL.get l k).isSome]) w/\
  ((AL.get l k=none/\u=z)\/∃a,AL.get l k=some a/\R w k u a):=by
 obtain⟨es,clock,hb,hs,hl,hd,h4,hf⟩:=h.find K hinj hkey;rcases hf with⟨h1,h2,h3⟩ |⟨j,e,a,h1,h2,h3,hka,hR⟩
 ·refine⟨z,?_,?_, .inl ⟨AL.get_none h3,rfl⟩⟩
  ·simp[Instr.lookup,run_underlying ht,MapKept.run_getObj_map hb,K.check w _ hkey,h1,hz,Result.andThen]
  ·simp[Instr.lookup,run_underlying ht,MapKept.run_getObj_map hb,K.check w _ hkey,h1,hz,Result.andThen,AL.get_none h3]
 ·refine⟨e.val,?_,?_, .inr ⟨a,AL.get_some hd hka,hR⟩⟩
  ·simp[Instr.lookup,run_underlying ht,MapKept.run_getObj_map hb,K.check w _ hkey,h1,Result.andThen]
  ·simp[Instr.lookup,run_underlying ht,MapKept.run_getObj_map hb,K.check w _ hkey,h1,Result.andThen,AL.get_some hd hka]
theorem MapAt.update(h:MapAt P kt ek R w b l)(K:Keyed P kt)(hinj:∀a b,ek a=ek b->a=b)(ht:P.underlying t=some (.map kt et)){k:κ}{kl:Lit}(hkey:keyOf P kt (ek k)=some kl)(val:Value):
 ∃w',(Instr.mapUpdate t (.map (some b)) (ek k) val).run P w= .ok () w'/\w.grownBy w' (some b)/\w'.heap.size=w.heap.size/\
  ∀(R':World->κ->Value->α->Prop) (a:α),(∀k' u a',k'≠k->R w k' u a'->R' w' k' u a')->R' w' k val a->MapAt P kt ek R' w' b (AL.put l k a):=by
 obtain⟨es,clock,hb,hs,hl,hd,h4,hf⟩:=h.find K hinj hkey;rcases hf with⟨h1,h2,h3⟩ |⟨j,e0,a0,h1,h2,h3,hka,hR⟩
 ·refine⟨ChangeMaps.setBlock w b (.map (es.push ⟨ek k,val,clock⟩) (clock+1)),?_,⟨rfl,rfl,rfl,by simp[ChangeMaps.setBlock],fun i _ hi=>ChangeMaps.heap_setBlock_other hb _ (fun e=>hi (by rw[e]))⟩,by simp[ChangeMaps.setBlock],?_⟩
  ·simp[Instr.mapUpdate,run_underlying ht,MapKept.run_getObj_map hb,K.check w false hkey,h1,MapKept.run_setObj_map _ hb,Result.andThen,ChangeMaps.setBlock]
  ·intro R' a hR' hv;refine⟨_,_,ChangeMaps.heap_setBlock_same hb _,stamped_push hs h2,?_,?_⟩
   ·rw[AL.put_none h3];simp;simpa using hl
   ·rw[AL.put_none h3];intro i k' a' hi
    by_cases hil:i<l.length
    ·rw[zAE hil]at hi;obtain⟨e,g1,g2,g3,g4⟩:=h4 i k' a' hi;refine⟨e,?_,g2,hR' _ _ _ (h3 _ (zAC hi)) g3,g4⟩;rw[Array.toList_push,zAE (by omega)];exact g1
    ·have hi2:i<(l ++ [(k,a)]).length:=(zAA.1 hi).1;simp at hi2;obtain rfl:i=l.length:=by omega
     simp at hi;obtain⟨rfl,rfl⟩:=hi;refine⟨⟨ek k,val,clock⟩,?_,rfl,hv,kl,hkey⟩;rw[Array.toList_push,zAF (by omega),hl];simp
 ·have hj:es[j]? =some e0:=by simpa using h2
  have hjl:j<es.toList.length:=(zAA.1 h2).1;have hkeyf:∀e',es[j]? =some e'->({e' with key:=ek k,val:=val}:MapEntry).key=e'.key:=fun e' he'=>by rw[hj]at he';cases he';exact h3.symm
  have hlist:(es.modify j (fun e'=>{e' with key:=ek k,val:=val})).toList=es.toList.set j {e0 with key:=ek k,val:=val}:=by rw[Array.toList_modify,ChangeMaps.modify_eq_set _ _ _ _ h2]
  refine⟨ChangeMaps.setBlock w b (.map (es.modify j (fun e'=>{e' with key:=ek k,val:=val})) clock),?_,⟨rfl,rfl,rfl,by simp[ChangeMaps.setBlock],fun i _ hi=>ChangeMaps.heap_setBlock_other hb _ (fun e=>hi (by rw[e]))⟩,by simp[ChangeMaps.setBlock],?_⟩
  ·simp[Instr.mapUpdate,run_underlying ht,MapKept.run_getObj_map hb,K.check w false hkey,h1,hj,h3,K.stays w hkey,MapKept.run_setObj_map _ hb,Result.andThen,ChangeMaps.setBlock]
  ·intro R' a hR' hv;refine⟨es.modify j (fun e'=>{e' with key:=ek k,val:=val}),clock,ChangeMaps.heap_setBlock_same hb _,stamped_modify hs _ _ (fun _ _=>rfl) (fun e' _ he'=>hkeyf e' he'),?_,?_⟩
   ·rw[AL.put_some hd hka,hlist];simp;simpa using hl
   ·rw[AL.put_some hd hka];intro i k' a' hi;rw[List.getElem?_set]at hi;split at hi
    ·rename_i hij;subst hij;split at hi
     ·simp at hi;obtain⟨rfl,rfl⟩:=hi;refine⟨{e0 with key:=ek k,val:=val},?_,rfl,hv,kl,hkey⟩;rw[hlist,List.getElem?_set_self hjl]
     ·cases hi
    ·rename_i hij;obtain⟨e,g1,g2,g3,g4⟩:=h4 i k' a' hi;refine⟨e,?_,g2,hR' _ _ _ ?_ g3,g4⟩
     ·rw[hlist,List.getElem?_set_ne hij];exact g1
     ·rintro rfl;refine hij ?_;have hi':i<(l.map Prod.fst).length:=by rw[zAY];exact(zAA.1 hi).1
      have hj':j<(l.map Prod.fst).length:=by rw[zAY];omega
      have a1:=(zAA.1 hi).2;have a2:=(zAA.1 hka).2;have hp:=List.pairwise_iff_getElem.1 hd;rcases Nat.lt_trichotomy j i with hlt | rfl | hlt
      ·exact absurd (by simp only[List.getElem_map,a1,a2]) (hp j i hj' hi' hlt)
      ·rfl
      ·exact absurd (by simp only[List.getElem_map,a1,a2]) (hp i j hi' hj' hlt)
end
theorem MapAt.lookup_all{κ α:Type} [DecidableEq κ]{P:Program}{kt et t:TypeId}{ek:κ->Value}{R:World->κ->Value->α->Prop}{w:World}{b:Nat}{l:List (κ×α)}(h:MapAt P kt ek R w b l)(K:Keyed P kt)(hinj:∀a b,ek a=ek b->a=b)
 (ht:P.underlying t=some (.map kt et)) {z:Value} (hz:∀w,(zeroValue et).run P w= .ok z w) {k:κ} {kl:Lit} (hkey:keyOf P kt (ek k)=some kl):
 ∃u,(∀w':World,w'.heap[b]? =w.heap[b]?->(Instr.lookup t (.map (some b)) (ek k) false).run P w'= .ok u w')/\((AL.get l k=none/\u=z)\/∃a,AL.get l k=some a/\R w k u a):=by
 obtain⟨es,clock,hb,hs,hl,hd,h4,hf⟩:=h.find K hinj hkey;rcases hf with⟨h1,h2,h3⟩ |⟨j,e,a,h1,h2,h3,hka,hR⟩
 ·refine⟨z,fun w' hw'=>?_, .inl ⟨AL.get_none h3,rfl⟩⟩;obtain⟨u,r1,_,r2⟩:=(h.keep (R':=fun _ _ _ _=>True) hw' (fun _ _ _ _=>trivial)).lookup K hinj ht (hz w') hkey;rcases r2 with⟨_,rfl⟩ |⟨a,r3,_⟩
  ·exact r1
  ·rw[AL.get_none h3]at r3;cases r3
 ·refine⟨e.val,fun w' hw'=>?_, .inr ⟨a,AL.get_some hd hka,hR⟩⟩;have h0:MapAt P kt ek (fun(_:World) (k':κ) (u':Value) (_:α)=>k'=k->u'=e.val) w b l:=by
   refine⟨es,clock,hb,hs,hl,fun i k' a' hi=>?_⟩;obtain⟨e',g1,g2,_,g4⟩:=h4 i k' a' hi;refine⟨e',g1,g2,?_,g4⟩;rintro rfl;have hp:=((stamped_iff es clock).1 hs).2.2;rw[List.pairwise_iff_getElem]at hp;obtain⟨hi',e1⟩:=zAA.1 g1;obtain⟨hj',e2⟩:=zAA.1 h2;rcases Nat.lt_trichotomy i j with hlt | rfl | hlt
   ·exact absurd (by rw[e1,e2,g2,h3]) (hp i j hi' hj' hlt)
   ·rw[<-e1,<-e2]
   ·exact absurd (by rw[e1,e2,g2,h3]) (hp j i hj' hi' hlt)
  obtain⟨u,r1,_,r2⟩:=(h0.keep (R':=fun(_:World) (k':κ) (u':Value) (_:α)=>k'=k->u'=e.val) hw' (fun _ _ _ h=>h)).lookup K hinj ht (hz w') hkey;rcases r2 with⟨r3,_⟩ |⟨a',_,r3⟩
  ·rw[AL.get_some hd hka]at r3;cases r3
  ·rw[r3 rfl]at r1;exact r1
theorem aJy{κ α:Type} [DecidableEq κ]{P:Program}{kt et t:TypeId}{ek:κ->Value}{R:World->κ->Value->α->Prop}{w:World}{b:Nat}{l:List (κ×α)}
 {ops:Array Oper} {rest:List Oper} {o:Oper} {a:Act} {Q:Exit->Act->World->Prop} (hg:o.guard=none) (m x v:Operand) (hop:o.op=Op.mapUpdate t m x v)
 (h:MapAt P kt ek R w b l) (K:Keyed P kt) (hinj:∀a b,ek a=ek b->a=b) (ht:P.underlying t=some (.map kt et)) (k:κ) (val:Value) {kl:Lit} (hkey:keyOf P kt (ek k)=some kl)
 (hm:a.eval m= .map (some b)) (hx:a.eval x=ek k) (hv:a.eval v=val)
 (hK:∀w',w.grownBy w' (some b)->w'.heap.size=w.heap.size->(∀(R':World->κ->Value->α->Prop) (a:α),(∀k' u a',k'≠k->R w k' u a'->R' w' k' u a')->R' w' k val a->MapAt P kt ek R' w' b (AL.put l k a))->
  wpList P ops Q rest (a.put o.dst undef) w'):wpList P ops Q (o :: rest) a w:=by
 refine wpList_plain hg fun K' hK'=>?_
 obtain⟨w',hrun,r1,r2,r3⟩:=h.update K hinj ht hkey val;unfold Oper.wp;simp[execOp,hop,hm,hx,hv,hrun,Result.andThen];exact hK' _ _ (hK w' r1 r2 r3)
def BoolK{κ:Type}(_:World)(_:κ)(u:Value)(b:Bool):Prop:=u= .bool b
theorem MapAt.lookup_bool{κ:Type} [DecidableEq κ]{P:Program}{kt et t:TypeId}{ek:κ->Value}{w:World}{b:Nat}{l:List (κ×Bool)}(h:MapAt P kt ek BoolK w b l)(K:Keyed P kt)(hinj:∀a b,ek a=ek b->a=b)
 (ht:P.underlying t=some (.map kt et)) (hz:(zeroValue et).run P w= .ok (.bool false) w) {k:κ} {kl:Lit} (hkey:keyOf P kt (ek k)=some kl):
 (Instr.lookup t (.map (some b)) (ek k) false).run P w= .ok (.bool ((AL.get l k).getD false)) w:=by
 obtain⟨u,h1,_,h2⟩:=h.lookup K hinj ht hz hkey;rcases h2 with⟨h2,rfl⟩ |⟨a,h2,h3⟩
 ·rw[h2];exact h1
 ·rw[h2];have:u= .bool a:=h3;rw[this]at h1;exact h1
theorem aBe(q:IntKind):∀a b:Int,Value.int q a=Value.int q b->a=b:=fun a b h=>by injection h
end Go.Proofs.YtchdbhggbdcapaaGreat
end
section
namespace Go.Proofs.YtchdbhggbdcapaaGreat
open _root_.Go.Proofs.Tryz
open Go.RowKit
theorem aA0{a b:Bool}(h:a=b):Ending.returned (.bool a)= .returned (.bool b):=by rw[h]
theorem aB3{k:IntKind}{a b:Int}(h:a=b):Ending.returned (.int k a)= .returned (.int k b):=by rw[h]
namespace B
theorem aQz{n:Int}(h:1<=n):(2:Int) ^ (n.toNat-1)=pw (n-1):=by unfold pw;rw[show(n-1).toNat=n.toNat-1 by omega]
theorem aBz{x:Int}(h: -9223372036854775808<=x)(h':x<=9223372036854775807):wrap64 x=x:=IntWalk.wrap64_in x ⟨h,h'⟩
theorem aIj{n x:Int}(hn:n<=32)(h0:0<=x)(h1:x<4294967296):bits .and .u32 x (pw n-1)=x % pw n:=by
 have hp:=aBr n;have hl:=pw_le hn;rw[u32_and x (pw n-1) h0 h1 (by omega) (by omega)];have e:(pw n-1).toNat=2 ^ n.toNat-1:=by have:=aDa n;omega
 rw[e,Nat.and_two_pow_sub_one_eq_mod];have h3:((x.toNat % 2 ^ n.toNat:Nat):Int)=(x.toNat:Int) % ((2 ^ n.toNat:Nat):Int):=Int.natCast_emod _ _;rw[h3,<-aDa,Int.toNat_of_nonneg h0]
end B
theorem aTd(n:Int)(w:World)(h0:1<=n)(h1:n<=32):Calls prog 141 #[.int .i64 n] w fun e w'=>e= .returned (.bool true)/\w=w':=by
 go_enter func141,ntmps141
 go_wp2;go_ret;exact⟨rfl,rfl⟩
theorem aV4(n:Int)(w:World)(h:n<1\/32<n):Calls prog 141 #[.int .i64 n] w fun e w'=>e= .returned (.bool false)/\w=w':=by
 rcases h with h | h
 ·go_enter func141,ntmps141
  go_wp2;go_ret;exact⟨rfl,rfl⟩
 ·have h1:1<=n:=by omega
  have hd:decide (n<=32)=false:=by simp;omega
  go_enter func141,ntmps141
  go_wp2;go_ret;exact⟨rfl,rfl⟩
theorem aH0(n:Int)(w:World):Calls prog 141 #[.int .i64 n] w fun e w'=>e= .returned (.bool (B.isWd n))/\w=w':=by
 cases h:B.isWd n
 · exact aV4 n w (by have : ¬ (1 <= n /\ n <= 32) := fun hc => by rw [B.aBj.2 hc] at h; cases h
                     omega)
 ·have:=B.aBj.1 h;exact aTd n w this.1 this.2
theorem aC7(n:Int)(w:World)(h0:0<=n)(h1:n<=32):Calls prog 142 #[.int .i64 n] w fun e w'=>e= .returned (.int .u32 (B.pw n-1))/\w=w':=by
 go_enter func142,ntmps142
 go_wp2;go_ret;refine⟨aB3 ?_,rfl⟩;have e:(2:Int) ^ n.toNat=B.pw n:=rfl;have hp:=B.aBr n;have hl:=B.pw_le h1;rw[e,IntKind.wrap_u64,IntKind.wrap_u64];omega
theorem aL4(n:Int)(w:World):Calls prog 112 #[.int .i64 n] w fun e w'=>e= .returned (.tuple #[.int .u32 (if B.isWd n then B.pw n-1 else 0), .int .i64 (if B.isWd n then 0 else 1)])/\w=w':=by
 have H1:=kH (aH0 n w);cases h:B.isWd n
 ·rw[h]at H1;have Hh:=kH h;clear h
  go_enter func112,ntmps112
  go_wp2_with fail
  refine H1.out.mono ?_;rintro e w' ⟨rfl,rfl⟩;go_wp2;go_ret2;exact⟨rfl,rfl⟩
 ·have hn:=B.aBj.1 h;rw[h]at H1;have H2:=kH (aC7 n w (by omega) hn.2);have Hh:=kH h;clear h hn
  go_enter func112,ntmps112
  go_wp2_with fail
  refine H1.out.mono ?_;rintro e w' ⟨rfl,rfl⟩
  go_wp2_with fail
  refine H2.out.mono ?_;rintro e w' ⟨rfl,rfl⟩;go_wp2;go_ret2;exact⟨rfl,rfl⟩
theorem aCn(n x:Int)(w:World)(h0:1<=n)(h1:n<=32)(h2:0<=x)(h3:x<B.pw n):Calls prog 190 #[.int .i64 n, .int .u32 x] w fun e w'=>e= .returned (.int .i64 (B.sg n x))/\w=w':=by
 have hp:=B.aF0 h0;have hq:=B.aBr (n-1);have hl:=B.pw_le h1;have e1:=B.aQz h0;have e2:(2:Int) ^ n.toNat=B.pw n:=rfl
 by_cases hc:B.pw (n-1)<=x
 ·have ht:(x / 2 ^ (n.toNat-1)== 1)=true:=by
   rw[e1];have:x / B.pw (n-1)=1:=by
    have h4:x=B.pw (n-1)*1+(x-B.pw (n-1)):=by omega
    rw[h4,Int.mul_comm,Int.mul_add_ediv_right _ _ (by omega),Int.ediv_eq_zero_of_lt (by omega) (by omega)];rfl
   rw[this];rfl
  have h4:x<4294967296:=by omega
  have Hc:=kH (⟨hp,hq,hl,e2,hc,h3⟩:_/\_/\_/\_/\_/\_);clear hp hq hl e1 e2 hc h3
  go_enter func190,ntmps190
  go_wp2;go_ret;refine⟨aB3 ?_,rfl⟩;obtain⟨hp,hq,hl,e2,hc,h3⟩:=Hc.out;rw[e2,B.aBz (x:=B.pw n) (by omega) (by omega),B.aBz (by omega) (by omega),B.sg,if_pos hc]
 ·have ht:(x / 2 ^ (n.toNat-1)== 1)=false:=by
   rw[e1,Int.ediv_eq_zero_of_lt h2 (by omega)];rfl
  have h4:x<4294967296:=by omega
  have Hc:=kH (Int.not_le.2 (Int.not_le.1 hc));clear hp hq hl e1 e2 hc h3
  go_enter func190,ntmps190
  go_wp2;go_ret;exact⟨aB3 (by rw[B.sg,if_neg (by have:=Hc.out;omega)]),rfl⟩
end Go.Proofs.YtchdbhggbdcapaaGreat
end
section
namespace Go.Proofs.YtchdbhggbdcapaaGreat
open _root_.Go.Proofs.Tryz
open Go.RowKit
namespace B
def has(op n a b:Int):Bool:=(do_ op n a b).isSome
structure Wds(n a b:Int):Prop where
 n0:1<=n
 n1:n<=32
 a0:0<=a
 a1:a<pw n
 b0:0<=b
 b1:b<pw n
theorem aM1(x y:Int): -x.natAbs<=x.tdiv y/\x.tdiv y<=x.natAbs:=by
 have h:(x.tdiv y).natAbs<=x.natAbs:=by rw[Int.natAbs_tdiv];exact Nat.div_le_self _ _
 omega
theorem aM2(x y:Int): -x.natAbs<=x.tmod y/\x.tmod y<=x.natAbs:=by
 have h:(x.tmod y).natAbs<=x.natAbs:=by rw[Int.natAbs_tmod];exact Nat.mod_le _ _
 omega
theorem aE3{n:Int}(x:Int)(hn:n<=32):bits .and .u32 (x % 4294967296) (pw n-1)=x % pw n:=by
 rw[aIj hn (Int.emod_nonneg _ (by decide)) (Int.emod_lt_of_pos _ (by decide)),bDe _ hn]
end B
theorem aAy{a a':Int}{c c':Bool}(h:a=a')(h':c=c'):Ending.returned (.tuple #[.int .u32 a, .bool c])= .returned (.tuple #[.int .u32 a', .bool c']):=by rw[h,h']
end Go.Proofs.YtchdbhggbdcapaaGreat
end
section
namespace Go.Proofs.YtchdbhggbdcapaaGreat
open _root_.Go.Proofs.Tryz
open Go.RowKit Go.Maps Go.Shelf
theorem aJ1{α:Type}{xs:List α}{k:Nat}{x:α}(h:xs[k]? =some x):xs.take (k+1)=xs.take k ++ [x]:=by
 rw[List.take_add_one,h];rfl
theorem aQ0{α:Type}{xs:List α}{n k:Nat}(hn:xs.length=n)(h:n<=k):xs.take k=xs:=zAK (by omega)
theorem aQb{α:Type}{p:α->Bool}{xs:List α}{k:Nat}{x:α}(hx:xs[k]? =some x)(h:(xs.take k).all p=true)(hp:p x=true):(xs.take (k+1)).all p=true:=by
 rw[aJ1 hx,List.all_append,h];simp[hp]
theorem aQ1{α:Type}{p:α->Bool}{xs:List α}{k:Nat}{x:α}(hx:xs[k]? =some x)(hp:p x=false):xs.all p=false:=by
 cases h:xs.all p
 ·rfl
 ·rw[zAD]at h;rw[h x (zAC hx)]at hp;cases hp
theorem aL5(n:Int)(A:Option Addr)(m c:Nat)(xs:List Int)(w:World)(hA:SlAt (IntR .u32) w A m xs):
 Calls prog 189 #[.int .i64 n, .slice A m c] w fun e w'=>e= .returned (.bool (B.isWd n && xs.all fun x=>decide (x<B.pw n)))/\w=w':=by
 have hl:=hA.le;have HA:=kH hA;clear hA;have H1:=kH (aH0 n w);cases h:B.isWd n
 ·rw[h]at H1;clear h
  go_enter func189,ntmps189
  go_wp2_with fail
  refine H1.out.mono ?_;rintro e w' ⟨rfl,rfl⟩;go_wp2;go_ret;exact⟨rfl,rfl⟩
 ·have hn:=B.aBj.1 h;rw[h]at H1;have HM:=kH (fun W=>aC7 n W (by omega) hn.2);clear h hn
  go_enter func189,ntmps189
  go_wp2_with fail
  refine H1.out.mono ?_;rintro e w' ⟨rfl,rfl⟩;go_wp2
  go_loop [12] (fun i=>∃k:Nat,k<=m/\i= .int .i64 k/\Hid ((xs.take k).all (fun x=>decide (x<B.pw n))=true)) (fun i=>m- (intOf i).toNat)
  case atStart=>exact⟨0,zBL _,rfl,rfl⟩
  case round=>
   obtain⟨k,hk,rfl,HT⟩:=hrel
   by_cases hlt:k<m
   ·obtain⟨x,b,off,u,hx,rfl,_,h1,rfl⟩:=HA.out.at_ hlt;have Hx:=kH hx;clear hx
    by_cases hc:x<B.pw n
    ·have hd:decide (B.pw n-1<x)=false:=by simp;omega
     have Hc:=kH hc;clear hc;generalize B.pw n-1=z at HM hd
     go_wp2_with fail
     refine(HM.out _).mono ?_;rintro e w' ⟨rfl,rfl⟩;go_wp2
     go_round
     case rel=>exact⟨k+1,by omega,by go_num,aQb Hx.out HT.out (by simpa using Hc.out)⟩
     case measure=>simp[intOf];omega
    ·have hd:decide (B.pw n-1<x)=true:=by simp;omega
     have Hc:=kH (show decide (x<B.pw n)=false by simpa using hc);clear hc;generalize B.pw n-1=z at HM hd
     go_wp2_with fail
     refine(HM.out _).mono ?_;rintro e w' ⟨rfl,rfl⟩;go_wp2;go_ret;exact⟨aA0 (by rw[aQ1 Hx.out Hc.out];rfl),rfl⟩
   ·go_wp2;go_ret;have h3:=HT.out;rw[aQ0 HA.out.len (by omega)]at h3;exact⟨aA0 (by rw[h3]),rfl⟩
end Go.Proofs.YtchdbhggbdcapaaGreat
end
section
namespace Go.Proofs.YtchdbhggbdcapaaGreat
open _root_.Go.Proofs.Tryz
open Go.RowKit Go.Maps Go.Shelf
theorem aX7{a a' b b':Int}(h:a=a')(h':b=b'):Ending.returned (.tuple #[.int .u32 a, .int .i64 b])= .returned (.tuple #[.int .u32 a', .int .i64 b']):=by rw[h,h']
end Go.Proofs.YtchdbhggbdcapaaGreat
end
section
namespace Go.Proofs.YtchdbhggbdcapaaGreat.B
theorem bAp(x m:Int)(hm:0<m):(if x.tmod m<0 then x.tmod m+m else x.tmod m)=x % m:=by
 have h:=Int.tmod_eq_emod (a:=x) (b:=m);have h0:=Int.emod_nonneg x (show m≠0 by omega);have h1:=Int.emod_lt_of_pos x hm;have hn:(m.natAbs:Int)=m:=by omega
 by_cases hx:0<=x\/m∣x
 ·rw[if_pos hx]at h;rw[h,if_neg (by omega)];omega
 ·rw[if_neg hx]at h;rw[h,if_pos (by omega)];omega
theorem bAq(x:Int): -((1-x) / 2)=x / 2:=by omega
theorem half_step'(x:Int)(k:Nat):x / 2 ^ k / 2=x / 2 ^ (k+1):=by
 rw[Int.pow_succ,<-Int.ediv_ediv_of_nonneg (Int.pow_nonneg (by decide))]
def bitN(x i:Nat):Nat:=x / 2 ^ i % 2
theorem aG1(x i:Nat):bitN x i<2:=Nat.mod_lt _ (by decide)
theorem aJ2(x i:Nat):bitN x i=if x.testBit i then 1 else 0:=by
 unfold bitN;rw[Nat.testBit_eq_decide_div_mod_eq];have:x / 2 ^ i % 2=0\/x / 2 ^ i % 2=1:=by omega
 rcases this with h | h <;> simp[h]
theorem aL6(x i:Nat):x % 2 ^ (i+1)=x % 2 ^ i+bitN x i*2 ^ i:=by
 unfold bitN;rw[Nat.pow_succ,Nat.mod_mul,Nat.mul_comm (2 ^ i)]
theorem bAr(a b i:Nat):bitN (a &&& b) i=bitN a i*bitN b i:=by
 simp only[aJ2,Nat.testBit_and];cases a.testBit i <;> cases b.testBit i <;> rfl
theorem bDf(a b i:Nat):bitN (a ||| b) i=max (bitN a i) (bitN b i):=by
 simp only[aJ2,Nat.testBit_or];cases a.testBit i <;> cases b.testBit i <;> rfl
theorem bAs(a b i:Nat):bitN (a ^^^ b) i=(bitN a i+bitN b i) % 2:=by
 simp only[aJ2,Nat.testBit_xor];cases a.testBit i <;> cases b.testBit i <;> rfl
theorem aG2(x:Int)(i:Nat)(h:0<=x):x / 2 ^ i % 2=(bitN x.toNat i:Int):=by
 unfold bitN;obtain⟨X,rfl⟩:=Int.eq_ofNat_of_zero_le h;simp
theorem aQ2{x:Nat}{n:Int}(h:(x:Int) < pw n):x % 2 ^ n.toNat=x:=by
 rw[aDa]at h;exact zAU (by omega)
theorem bAt(a m:Int)(k:Nat):2* (a*2 ^ k % m) % m=a*2 ^ (k+1) % m:=by
 rw[Int.pow_succ,<-Int.mul_assoc,Int.mul_comm 2,Int.mul_emod,Int.emod_emod,<-Int.mul_emod]
end Go.Proofs.YtchdbhggbdcapaaGreat.B
end
end
