/- Part. -/
import Derived.Test.YtchdbhggbdcapaaGreatSuLX
import Derived.Test.YtchdbhggbdcapaaGreatSu00
import Derived.Deep.Fields
import Derived.Deep.LoopGhost
import Derived.Deep.RegionHeld3
import Derived.Laws.CopyOwn
import Derived.OneCell
import Derived.OpenShut
import Derived.ProofKit
import Derived.Test.YtchdbhggbdcapaaGreatProg
import Derived.OrdersIn
import Derived.RangeFuncCalls
set_option linter.unusedVariables false
set_option linter.unusedSimpArgs false
set_option maxRecDepth 100000
set_option maxHeartbeats 16000000
namespace Go.Proofs.YtchdbhggbdcapaaGreat
open _root_.Go.Proofs.Tryz
section
open Go.RowKit
namespace Rg
section
variable {P : Program} {ops : Array Oper} {md : Region.Mode} {C : World -> Prop}
def dst(ops:Array Oper)(k:Nat):Option Tmp:=(ops[k]?).bind (·.dst)
def cp(ops:Array Oper)(vs:Nat->Value)(a:Act)(c:Nat->Bool):Nat->Act
 | 0=>a
 | m+1=>if c m then(cp ops vs a c m).put (dst ops m) (vs m)else cp ops vs a c m
theorem bBm(a:Act)(d:Option Tmp)(v:Value):(a.put d v).tmps.size=a.tmps.size:=by
 cases d <;> simp[Act.put]
theorem bDw(vs:Nat->Value)(a:Act)(c:Nat->Bool)(m:Nat):(cp ops vs a c m).tmps.size=a.tmps.size:=by
 induction m with
 | zero=>rfl
 | succ m ih=>
  simp only[cp];split
  ·rw[bBm,ih]
  ·exact ih
theorem aQk(a:Act)(t:Tmp)(v:Value):(a.put (some t) v).eval (.tmp t)=if t<a.tmps.size then v else undef:=by
 simp only[Act.eval,Act.put,Array.getD_eq_getD_getElem?,Array.getElem?_setIfInBounds]
 by_cases h:t<a.tmps.size <;> simp[h]
theorem aIu(a:Act)(d:Option Tmp)(t:Tmp)(v:Value)(h:d≠some t):(a.put d v).eval (.tmp t)=a.eval (.tmp t):=
 Act.eval_put fun e he hx=>h (by rw[he];injection hx with hx;rw[hx])
theorem aHx(vs:Nat->Value)(a:Act)(c:Nat->Bool)(t:Tmp)(m:Nat)(h:∀k,k<m->dst ops k≠some t):(cp ops vs a c m).eval (.tmp t)=a.eval (.tmp t):=by
 induction m with
 | zero=>rfl
 | succ m ih=>
  simp only[cp];split
  ·rw[aIu _ _ _ _ (h m (by omega))];exact ih fun k hk=>h k (by omega)
  ·exact ih fun k hk=>h k (by omega)
theorem eval_hit(vs:Nat->Value)(a:Act)(c:Nat->Bool)(t:Tmp)(k:Nat)(hd:dst ops k=some t)(hc:c k=true)(m:Nat)(hk:k<m)(h:∀j,j<m->j≠k->dst ops j≠some t):
 (cp ops vs a c m).eval (.tmp t)=if t<a.tmps.size then vs k else undef:=by
 induction m with
 | zero=>omega
 | succ m ih=>
  simp only[cp]
  by_cases e:k=m
  ·subst e;rw[if_pos hc,hd,aQk,bDw]
  ·have hm:=h m (by omega) (fun e'=>e e'.symm);split
   ·rw[aIu _ _ _ _ hm];exact ih (by omega) fun j hj=>h j (by omega)
   ·exact ih (by omega) fun j hj=>h j (by omega)
theorem aIv(vs:Nat->Value)(a:Act){c c':Nat->Bool}(m:Nat)(h:∀k,k<m->c k=c' k):cp ops vs a c m=cp ops vs a c' m:=by
 induction m with
 | zero=>rfl
 | succ m ih=>simp only[cp,ih fun k hk=>h k (by omega),h m (by omega)]
theorem aNq(vs:Nat->Value)(a:Act){c c':Nat->Bool}(i:Nat)(m:Nat)(hi:i<m)(h0:c i=false)(h1:c' i=true)(h:∀k,k≠i->c' k=c k)
 (hd:∀k t,k<m->k≠i->dst ops k=some t->dst ops i≠some t):cp ops vs a c' m=(cp ops vs a c m).put (dst ops i) (vs i):=by
 induction m with
 | zero=>omega
 | succ m ih=>
  simp only[cp]
  by_cases e:i=m
  ·subst e;rw[if_pos h1,if_neg (by simp[h0]),aIv vs a i fun k hk=>h k (by omega)]
  ·rw[ih (by omega) fun k t hk=>hd k t (by omega),h m (fun e'=>e e'.symm)];split
   ·exact(Act.put_comm _ _ _ fun t ht e'=>hd m t (by omega) (fun e''=>e e''.symm) e' ht)
   ·rfl
theorem aY2(vs:Nat->Value)(a:Act)(c:Nat->Bool)(d:Deferred)(m:Nat):({cp ops vs a c m with defers:=d ::(cp ops vs a c m).defers}:Act)=cp ops vs {a with defers:=d :: a.defers} c m:=by
 induction m with
 | zero=>rfl
 | succ m ih=>
  simp only[cp];split
  ·rw[Act.put_defers,ih]
  ·exact ih
theorem aE2{o:Oper}(hs:∀cs b,o.op≠ .select cs b){a b:Act}(h:∀t,t∈o.looksAt ops->a.eval (.tmp t)=b.eval (.tmp t)):
 execOp a.eval o=execOp b.eval o/\Region.wanted o (yielded ops a.tmps)=Region.wanted o (yielded ops b.tmps):=by
 constructor
 ·refine execOp_congr o hs fun x hx=>?_
  cases x with
  | tmp t=>exact h t (zAO _ (List.mem_filterMap.2 ⟨.tmp t,by simpa using hx,rfl⟩))
  | const v=>rfl
  | global g=>rfl
  | func f=>rfl
 ·unfold Region.wanted;cases hg:o.guard with
  | none=>rfl
  | some p=>
   obtain⟨g,want⟩:=p;simp only;have:yielded ops a.tmps g=yielded ops b.tmps g:=by
    unfold yielded;cases hd:(ops[g]?).bind (·.dst)with
    | none=>rfl
    | some d=>
     have:=h d (zAP _ (by simp[hg,hd]));simp only[Act.eval,Array.getD_eq_getD_getElem?]at this;simp only[Option.bind_some];cases h1:a.tmps[d]? with
     | none=>
      cases h2:b.tmps[d]? with
      | none=>rfl
      | some u=>rw[h1,h2]at this;simp at this;subst this;rfl
     | some u=>
      cases h2:b.tmps[d]? with
      | none=>rw[h1,h2]at this;simp at this;subst this;rfl
      | some u'=>rw[h1,h2]at this;simp at this;subst this;rfl
   rw[this]
theorem aNr{Q:Act->Prop}:∀(l:List Oper) (k:Nat) (a:Act),(∀j,j<l.length->l[j]? =ops[k+j]?)->wpQuiet P ops C Q l a->
 ∃vs:Nat->Value,(∀j,j<l.length->∃o b,ops[k+j]? =some o/\YieldsIn P ops C o (vs j) b/\b=(List.range j).foldl (fun a i=>a.put (dst ops (k+i)) (vs i)) a)/\
  Q ((List.range l.length).foldl (fun a i=>a.put (dst ops (k+i)) (vs i)) a)
 | [],k,a,_,h=>⟨fun _=>undef,fun j hj=>absurd hj (by simp),h⟩
 | o :: rest,k,a,hl,h=>by
  have ho:ops[k]? =some o:=by have:=hl 0 (by simp);simpa using this.symm
  have h':qOp P ops C k (wpQuiet P ops C Q rest) a:=by
   unfold qOp;simp only[ho];exact h
  obtain⟨v,hy,hr⟩:=yieldsIn_of_qOp ho h';obtain⟨vs,h1,h2⟩:=aNr rest (k+1) (a.put o.dst v) (fun j hj=>by
   have:=hl (j+1) (by simp;omega);simpa[Nat.add_assoc,Nat.add_comm 1 j]using this) hr
  have hd:dst ops k=o.dst:=by simp[dst,ho]
  have shift:∀m,(List.range (m+1)).foldl (fun a i=>a.put (dst ops (k+i)) ((fun j=>if j=0 then v else vs (j-1)) i)) a=(List.range m).foldl (fun a i=>a.put (dst ops (k+1+i)) (vs i)) (a.put o.dst v):=by
   intro m;rw[List.range_succ_eq_map,List.foldl_cons,List.foldl_map];simp only[zBI,hd,if_true]
   congr 1
   funext b i
   simp[Nat.add_assoc,Nat.add_comm 1 i]
  refine⟨fun j=>if j=0 then v else vs (j-1),fun j hj=>?_,?_⟩
  ·cases j with
   | zero=>exact⟨o,a,by simpa using ho,by simpa using hy,rfl⟩
   | succ j=>
    obtain⟨o',b,g1,g2,g3⟩:=h1 j (by simp at hj;omega);refine⟨o',b,by rw[<-g1];congr 1;omega,by simpa using g2,?_⟩;rw[g3];exact(shift j).symm
  ·rw[List.length_cons];have:=shift rest.length;rw[this];exact h2
theorem aVm(vs:Nat->Value)(a:Act)(m:Nat):(List.range m).foldl (fun a i=>a.put (dst ops (0+i)) (vs i)) a=cp ops vs a (fun _=>true) m:=by
 induction m with
 | zero=>rfl
 | succ m ih=>
  rw[List.range_succ,List.foldl_append,ih];simp[cp]
structure Fine(md:Region.Mode)(ops:Array Oper)(n:Nat):Prop where
 sel:∀(j:Nat) (o:Oper) cs b,ops[j]? =some o->o.op≠ .select cs b
 apart:∀(i j:Nat) (t:Tmp),i<ops.size->j<ops.size->i≠j->dst ops i=some t->dst ops j≠some t
 dep:∀(i:Nat) (o:Oper) (t:Tmp) (k:Nat),ops[i]? =some o->t∈o.looksAt ops->dst ops k=some t->∃e∈o.after,Region.binds md e=true/\e.on=k
 lex:∀(i:Nat) (o:Oper) (e:Edge),ops[i]? =some o->e∈o.after->Region.binds md e=true->e.on<i
 late:∀(i:Nat) (o:Oper),i<n->ops[i]? =some o->(∃(ol:Oper) (e:Edge),ops[n]? =some ol/\e∈ol.after/\Region.binds md e=true/\e.on=i)\/∃(t:Operand) (x:Nat),o.op= .extract t x
def lateB(ol:Oper)(md:Region.Mode)(i:Nat)(o:Oper):Bool:=(ol.after.any fun e=>Region.binds md e && e.on == i) ||(match o.op with | .extract ..=>true | _=>false)
def fineB(md:Region.Mode)(ops:Array Oper)(n:Nat):Bool:=
 Region.noSelect ops &&
 ((List.range ops.size).all fun i=>(List.range ops.size).all fun j=>i == j ||(dst ops i).isNone || dst ops i != dst ops j) &&
 ((List.range ops.size).all fun i => match ops[i]? with
   | none=>true
   | some o=>(o.after.all fun e=>!Region.binds md e || decide (e.on<i)) &&
    ((o.looksAt ops).all fun t=>(List.range ops.size).all fun k=>dst ops k != some t || o.after.any fun e=>Region.binds md e && e.on == k)) &&
 (match ops[n]? with
  | none=>false
  | some ol=>(List.range n).all fun i=>match ops[i]? with | none=>true | some o=>lateB ol md i o)
theorem aD6{k:Nat}{t:Tmp}(h:dst ops k=some t):k<ops.size:=by
 rcases Nat.lt_or_ge k ops.size with h' | h'
 ·exact h'
 ·simp[dst,Array.getElem?_eq_none h']at h
theorem at_lt{i:Nat}{o:Oper}(h:ops[i]? =some o):i<ops.size:=(gA h).1
theorem bDx{n:Nat}(h:fineB md ops n=true):Fine md ops n:=by
 unfold fineB at h;simp only[Bool.and_eq_true]at h;obtain⟨⟨⟨h1,h2⟩,h3⟩,h4⟩:=h;rw[zAD]at h2 h3;refine⟨Region.noSelect_spec h1,?_,?_,?_,?_⟩
 ·intro i j t hi hj hne hd e;have:=h2 i (zBR.2 hi);rw[zAD]at this;have:=this j (zBR.2 hj);simp[hne,hd,e]at this
 ·intro i o t k ho ht hd;have:=h3 i (zBR.2 (at_lt ho));simp only[ho,Bool.and_eq_true]at this;have:=this.2;rw[zAD]at this;have:=this t ht;rw[zAD]at this;have:=this k (zBR.2 (aD6 hd));simp only[hd,bne_self_eq_false,Bool.false_or]at this;rw[Array.any_eq_true']at this;obtain⟨e,he,hb⟩:=this;simp at hb;exact⟨e,he,hb.1,hb.2⟩
 ·intro i o e ho he hb;have:=h3 i (zBR.2 (at_lt ho));simp only[ho,Bool.and_eq_true]at this;have:=this.1;rw[Array.all_eq_true']at this;have:=this e he;simpa[hb]using this
 ·intro i o hi ho;cases hn:ops[n]? with
  | none=>simp[hn]at h4
  | some ol=>
   simp only[hn]at h4;rw[zAD]at h4;have:=h4 i (zBR.2 hi);simp only[ho,lateB,Bool.or_eq_true]at this;rcases this with h | h
   ·rw[Array.any_eq_true']at h;obtain⟨e,he,hb⟩:=h;simp at hb;exact .inl ⟨ol,e,rfl,he,hb.1,hb.2⟩
   ·right
    split at h
    ·rename_i t x heq;exact⟨t,x,heq⟩
    ·cases h
def unl(listed:Array Bool):Nat->Nat
 | 0=>0
 | m+1=>unl listed m+if listed.getD m true then 0 else 1
theorem bBn{listed listed':Array Bool}(m:Nat)(h:∀k,k<m->listed'.getD k true=listed.getD k true):unl listed' m=unl listed m:=by
 induction m with
 | zero=>rfl
 | succ m ih=>simp only[unl,ih fun k hk=>h k (by omega),h m (by omega)]
theorem aVn{listed:Array Bool}{i:Nat}(h:listed.getD i true=false)(m:Nat)(hi:i<m):unl (listed.setIfInBounds i true) m+1=unl listed m:=by
 have his:i<listed.size:=by
  rcases Nat.lt_or_ge i listed.size with h' | h'
  ·exact h'
  ·simp[Array.getElem?_eq_none h']at h
 induction m with
 | zero=>omega
 | succ m ih=>
  simp only[unl]
  by_cases e:i=m
  ·subst e;have e1:unl (listed.setIfInBounds i true) i=unl listed i:=bBn i fun k hk=>getD_set_ne true (by omega)
   rw[e1,h];simp[his]
  ·have:=ih (by omega);rw[getD_set_ne true e];omega
theorem aIw{listed:Array Bool}{m:Nat}(h:unl listed m=0):∀k,k<m->listed.getD k true=true:=by
 induction m with
 | zero=>intro k hk;omega
 | succ m ih=>
  simp only[unl]at h;intro k hk
  by_cases e:k=m
  ·subst e;cases hl:listed.getD k true
   ·simp[hl]at h
   ·rfl
  ·exact ih (by omega) k (by omega)
theorem aE8{listed:Array Bool}{k:Nat}(hk:k<listed.size)(d d':Bool):listed.getD k d=listed.getD k d':=by simp[hk]
theorem aWt{n:Nat}(hf:Fine md ops n){listed:Array Bool}(hs:listed.size=ops.size)(m:Nat)(hm:m<=ops.size)(h:∃k,k<m/\listed.getD k true=false):∃i,i∈Region.ready md ops listed:=by
 induction m with
 | zero=>obtain⟨k,hk,_⟩:=h;omega
 | succ m ih=>
  by_cases h':∃k,k<m/\listed.getD k true=false
  ·exact ih (by omega) h'
  ·obtain⟨k,hk,hl⟩:=h;have e:k=m:=by
    rcases Nat.lt_or_ge k m with h1 | h1
    ·exact absurd ⟨k,h1,hl⟩ h'
    ·omega
   subst e;have hks:k<ops.size:=by omega
   refine⟨k,mem_ready.2 ⟨hl,ops[k],Array.getElem?_eq_getElem hks,fun e he hb=>?_⟩⟩;have hlt:=hf.lex k _ e (Array.getElem?_eq_getElem hks) he hb;have:¬listed.getD e.on true=false:=fun h1=>h' ⟨e.on,hlt,h1⟩
   rw[aE8 (by omega) false true];simpa using this
def onlyK(K:Act->World->Prop):Exit->Act->World->Prop
 | .normal,a,w=>K a w
 | _,_,_=>False
theorem aKk(K:Act->World->Prop):¬LetsOut (onlyK K):=by
 rintro⟨a,w,h⟩;exact h
structure Inv(md:Region.Mode)(ops:Array Oper)(C:World->Prop)(n:Nat)(vs:Nat->Value)(a:Act)(K:Act->World->Prop)(listed:Array Bool)(act:Act)(w:World):Prop where
 size:listed.size=ops.size
 shut:∀(i:Nat) (o:Oper),ops[i]? =some o->listed.getD i false=true->∀e∈o.after,Region.binds md e=true->listed.getD e.on false=true
 head:listed.getD n false=false->act=cp ops vs a (fun k=>listed.getD k false) n/\C w
 tail:listed.getD n false=true->∃a1 u,a1.tmps=a.tmps/\act=(cp ops vs a1 (fun k=>listed.getD k false) n).put (dst ops n) u/\K ((cp ops vs a1 (fun _=>true) n).put (dst ops n) u) w
theorem aTv{o:Oper}{t:Operand}{x:Nat}(ho:o.op= .extract t x)(ρ:Operand->Value){v:Value}{w:World}(h:(execOp ρ o).run P w= .ok (.value v) w)(w':World):(execOp ρ o).run P w'= .ok (.value v) w':=by
 unfold execOp at h⊢;simp only[ho]at h⊢;unfold Instr.extract at h⊢;cases hv:ρ t with
 | tuple us=>
  rw[hv]at h;cases hx:us[x]? with
  | none=>simp[hx,Result.andThen,stuck]at h
  | some u=>simp[hx,Result.andThen]at h⊢;exact h
 | _=>rw[hv]at h;simp[Result.andThen,stuck]at h
theorem aWu{n:Nat}(hf:Fine md ops n)(hn:n+1=ops.size){vs:Nat->Value}{a:Act}{K:Act->World->Prop}(w0:World)(hw0:C w0)
 (hv:∀i,i<n->∃o,ops[i]? =some o/\YieldsIn P ops C o (vs i) (cp ops vs a (fun _=>true) i))
 (hl:∀w,C w->wpOp P ops (onlyK K) n K (cp ops vs a (fun _=>true) n) w):
 ∀(fuel:Nat) (listed:Array Bool) (act:Act) (w:World),unl listed ops.size<=fuel->Inv md ops C n vs a K listed act w->wpAny P md ops (onlyK K) fuel listed act w:=by
 intro fuel;have done:∀(listed:Array Bool) (act:Act) (w:World),unl listed ops.size=0->Inv md ops C n vs a K listed act w->onlyK K .normal act w:=by
  intro listed act w h0 I;have hall:=aIw h0;have hn':listed.getD n false=true:=by rw[aE8 (by rw[I.size];omega) false true];exact hall n (by omega)
  obtain⟨a1,u,_,e2,hk⟩:=I.tail hn';rw[e2,aIv vs a1 (c':=fun _=>true) n fun k hk=>by
   show listed.getD k false=true
   rw[aE8 (by rw[I.size];omega) false true];exact hall k (by omega)]
  exact hk
 have noReady:∀(listed:Array Bool) (act:Act) (w:World),Inv md ops C n vs a K listed act w->Region.ready md ops listed= []->unl listed ops.size=0:=by
  intro listed act w I hr;rcases Nat.eq_zero_or_pos (unl listed ops.size)with h | h
  ·exact h
  ·have hex:∃k,k<ops.size/\listed.getD k true=false:=by
    apply zAI;intro hno;have:∀m,m<=ops.size->unl listed m=0:=by
     intro m;induction m with
     | zero=>intro _;rfl
     | succ m ih=>
      intro hm;simp only[unl,ih (by omega)];cases hl:listed.getD m true
      ·exact absurd ⟨m,by omega,hl⟩ hno
      ·simp
    have:=this _ (zBJ _);omega
   obtain⟨i,hi⟩:=aWt hf I.size ops.size (zBJ _) hex;rw[hr]at hi;cases hi
 induction fuel with
 | zero=>
  intro listed act w hu I;have h0:unl listed ops.size=0:=by omega
  refine⟨?_,done listed act w h0 I⟩;have hall:=aIw h0;cases hr:Region.ready md ops listed with
  | nil=>rfl
  | cons i r=>
   have hi:i∈Region.ready md ops listed:=by rw[hr];simp
   obtain⟨h1,o,ho,_⟩:=mem_ready.1 hi;rw[hall i (at_lt ho)]at h1;cases h1
 | succ fuel ih=>
  intro listed act w hu I;refine⟨fun hr=>done listed act w (noReady listed act w I hr) I,fun i hi=>?_⟩;obtain⟨hun,o,ho,hedges⟩:=mem_ready.1 hi;have hilt:=at_lt ho;have hun':listed.getD i false=false:=by rw[aE8 (by rw[I.size];omega) false true];exact hun
  have hcount:=aVn hun ops.size hilt;have evs:∀a1:Act,a1.tmps=a.tmps->∀t,t∈o.looksAt ops->(cp ops vs a1 (fun k=>listed.getD k false) n).eval (.tmp t)=(cp ops vs a (fun _=>true) (min i n)).eval (.tmp t):=by
   intro a1 ha1 t ht;have hsz:a1.tmps.size=a.tmps.size:=by rw[ha1]
   by_cases hex:∃k,k<n/\dst ops k=some t
   ·obtain⟨k,hk,hd⟩:=hex;obtain⟨e,he,hb,hon⟩:=hf.dep i o t k ho ht hd;have hkl:listed.getD k false=true:=by rw[<-hon];exact hedges e he hb
    have hki:k<i:=by rw[<-hon];exact hf.lex i o e ho he hb
    rw[eval_hit vs a1 _ t k hd hkl n hk fun j hj hjk=>hf.apart k j t (aD6 hd) (by omega) (fun e=>hjk e.symm) hd,
     eval_hit vs a _ t k hd rfl (min i n) (by omega) fun j hj hjk=>hf.apart k j t (aD6 hd) (by omega) (fun e=>hjk e.symm) hd,hsz]
   ·have hno:∀k,k<n->dst ops k≠some t:=fun k hk hd=>hex ⟨k,hk,hd⟩
    rw[aHx vs a1 _ t n hno,aHx vs a _ t (min i n) fun k hk=>hno k (by omega)];simp only[Act.eval,ha1]
  have shut':∀j o',ops[j]? =some o'->(listed.setIfInBounds i true).getD j false=true->∀e∈o'.after,Region.binds md e=true->(listed.setIfInBounds i true).getD e.on false=true:=by
   intro j o' hj hjl e he hb
   by_cases hji:j=i
   ·subst hji;rw[ho]at hj;cases hj;exact getD_set_true (hedges e he hb)
   ·rw[getD_set_ne false (fun e=>hji e.symm)]at hjl;exact getD_set_true (I.shut j o' hj hjl e he hb)
  have his:i<listed.size:=by rw[I.size];exact hilt
  have hset:(listed.setIfInBounds i true).getD i false=true:=by simp[his]
  by_cases hin:i<n
  ·obtain⟨o2,ho2,hy⟩:=hv i hin;rw[ho]at ho2;cases ho2;have hmin:min i n=i:=by omega
   cases hnl:listed.getD n false
   ·
     obtain⟨rfl,hw⟩:=I.head hnl;obtain⟨e1,e2⟩:=aE2 (hf.sel i o · · ho) (evs a rfl);rw[hmin]at e1 e2;have hy':YieldsIn P ops C o (vs i) (cp ops vs a (fun k=>listed.getD k false) n):=hy.of_same e1 e2;refine wpOp_of_qOp (K:=fun a'=>a'=(cp ops vs a (fun k=>listed.getD k false) n).put o.dst (vs i)) hw ?_ (hy'.qOp ho rfl);rintro a' w' hw' rfl;refine ih _ _ _ (by omega) ⟨by simp[I.size],shut',fun h=>⟨?_,hw'⟩,fun h=>?_⟩
     ·have:=aNq vs a (c:=fun k=>listed.getD k false) (c':=fun k=>(listed.setIfInBounds i true).getD k false) i n hin hun' hset (fun k hk=>getD_set_ne false (fun e=>hk e.symm)) (ops:=ops) (fun k t hk hki hd=>hf.apart k i t (aD6 hd) hilt hki hd);rw[this];simp[dst,ho]
     ·rw[getD_set_ne false (by omega),hnl]at h;cases h
   ·
     obtain⟨a1,u,ha1,rfl,hk⟩:=I.tail hnl;obtain⟨t,x,hop⟩:∃t x,o.op= .extract t x:=by
      rcases hf.late i o hin ho with⟨ol,e,h1,h2,h3,h4⟩ | h
      ·have:=I.shut n ol h1 hnl e h2 h3;rw[h4,hun']at this;cases this
      ·exact h
     have evs2:∀t,t∈o.looksAt ops->((cp ops vs a1 (fun k=>listed.getD k false) n).put (dst ops n) u).eval (.tmp t)=(cp ops vs a (fun _=>true) (min i n)).eval (.tmp t):=by
      intro t ht;rw[aIu]
      ·exact evs a1 ha1 t ht
      ·intro hd;obtain⟨e,he,hb,hon⟩:=hf.dep i o t n ho ht hd;have:=hf.lex i o e ho he hb;omega
     obtain⟨e1,e2⟩:=aE2 (hf.sel i o · · ho) evs2;rw[hmin]at e1 e2;have fin:wpAny P md ops (onlyK K) fuel (listed.setIfInBounds i true) (((cp ops vs a1 (fun k=>listed.getD k false) n).put (dst ops n) u).put o.dst (vs i)) w:=by
      refine ih _ _ _ (by omega) ⟨by simp[I.size],shut',fun h=>?_,fun h=>⟨a1,u,ha1,?_,hk⟩⟩
      ·rw[getD_set_ne false (by omega),hnl]at h;cases h
      ·have:=aNq vs a1 (c:=fun k=>listed.getD k false) (c':=fun k=>(listed.setIfInBounds i true).getD k false) i n hin hun' hset (fun k hk=>getD_set_ne false (fun e=>hk e.symm)) (ops:=ops) (fun k t hk hki hd=>hf.apart k i t (aD6 hd) hilt hki hd);rw[this];have hdi:dst ops i=o.dst:=by simp[dst,ho]
       rw[hdi];exact(Act.put_comm _ _ _ fun d hd e=>hf.apart n i d (by omega) hilt (by omega) hd (by rw[hdi];exact e))
     unfold wpOp;simp only[ho];rw[e2];rcases hy with⟨hw,hq⟩ |⟨hw,hvs⟩
     ·rw[if_pos hw]
      left
      have hq0:=hq w0 hw0;unfold Oper.quietAt at hq0;have hrun:(execOp (cp ops vs a (fun _=>true) i).eval o).run P w0= .ok (.value (vs i)) w0:=by
       generalize hr:(execOp (cp ops vs a (fun _=>true) i).eval o).run P w0=r at hq0;unfold execOp at hr;simp only[hop]at hr;cases r with
       | ok nx w'=>
        cases nx with
        | value v'=>simp only[Oper.quietUpon]at hq0;rw[hq0.1,hq0.2]
        | skip=>
         exfalso
         revert hr
         cases hx:Instr.extract ((cp ops vs a (fun _=>true) i).eval t) x |>.run P w0 <;> simp[Sem.run_bind,hx,Result.andThen]
        | enter f args=>
         exfalso
         revert hr
         cases hx:Instr.extract ((cp ops vs a (fun _=>true) i).eval t) x |>.run P w0 <;> simp[Sem.run_bind,hx,Result.andThen]
        | _=>simp only[Oper.quietUpon]at hq0
       | halt x' w'=>simp only[Oper.quietUpon]at hq0
      have hrun':=aTv hop _ hrun w;unfold Oper.wp;rw[e1,hrun'];exact fin
     ·rw[if_neg (by simp[hw])];rw[<-hvs];exact fin
  ·
    have hi':i=n:=by omega
    subst hi';obtain⟨rfl,hw⟩:=I.head hun';obtain⟨e1,e2⟩:=aE2 (hf.sel i o · · ho) (evs a rfl);rw[Nat.min_self]at e1 e2;have hL:=hl w hw;unfold wpOp at hL⊢;simp only[ho]at hL⊢;rw[e2];have fin:∀a1 u w',a1.tmps=a.tmps->K ((cp ops vs a1 (fun _=>true) i).put o.dst u) w'->wpAny P md ops (onlyK K) fuel (listed.setIfInBounds i true) ((cp ops vs a1 (fun k=>listed.getD k false) i).put o.dst u) w':=by
     intro a1 u w' ha1 hk;have hdi:dst ops i=o.dst:=by simp[dst,ho]
     refine ih _ _ _ (by omega) ⟨by simp[I.size],shut',fun h=>?_,fun h=>⟨a1,u,ha1,?_,by rw[hdi];exact hk⟩⟩
     ·rw[hset]at h;cases h
     ·rw[hdi,aIv vs a1 (c':=fun k=>listed.getD k false) i fun k hk=>getD_set_ne false (by omega)]
    split
    ·rename_i hwant;rw[if_pos hwant]at hL;rcases hL with hL |⟨_,hlo⟩
     ·left
      unfold Oper.wp at hL⊢;rw[e1];generalize (execOp (cp ops vs a (fun _=>true) i).eval o).run P w=r at hL;cases r with
      | ok nx w'=>
       cases nx <;> simp only[Oper.upon]at hL⊢
       case value u=>exact fin a u w' rfl hL
       case skip=>exact fin a undef w' rfl hL
       case defer d=>
        rw[aY2]at hL⊢;exact fin _ undef w' rfl hL
       case enter f args=>
        refine Calls.mono hL fun e w'' he=>?_
        cases e with
        | returned u=>exact fin a u w'' rfl he
        | panicked c=>exact he.elim
        | outgrown=>exact absurd he (aKk K)
       case row row args=>exact Rows.mono hL fun u w'' he=>fin a u w'' rfl he
      | halt x w'=>
       cases x <;> simp only[Oper.upon]at hL⊢
       case panic u=>exact hL.elim
     ·exact absurd hlo (aKk K)
    ·rename_i hwant;rw[if_neg hwant]at hL;exact fin a undef w rfl hL
end
theorem aSc{P:Program}{ops:Array Oper}{Q:Exit->Act->World->Prop}{K K':Act->World->Prop}{i:Nat}{a:Act}{w:World}(h:wpOp P ops (onlyK K') i K a w):wpOp P ops Q i K a w:=by
 unfold wpOp at h⊢;split
 ·rename_i ho;simpa only[ho]using h
 ·rename_i o ho;simp only[ho]at h;split
  ·rename_i hw;rw[if_pos hw]at h;rcases h with h |⟨_,h⟩
   ·left
    unfold Oper.wp at h⊢;generalize (execOp a.eval o).run P w=r at h;cases r with
    | ok nx w'=>
     cases nx <;> simp only[Oper.upon]at h⊢
     case value u=>exact h
     case skip=>exact h
     case defer d=>exact h
     case enter f args=>
      refine Calls.mono h fun e w'' he=>?_
      cases e with
      | returned u=>exact he
      | panicked c=>exact he.elim
      | outgrown=>exact absurd he (aKk K')
     case row row args=>exact h
    | halt x w'=>
     cases x <;> simp only[Oper.upon]at h⊢
     case panic u=>exact h.elim
   ·exact absurd h (aKk K')
  ·rename_i hw;rw[if_neg hw]at h;exact h
theorem wpAny_out{P:Program}{ops:Array Oper}{md:Region.Mode}{Q:Exit->Act->World->Prop}{K:Act->World->Prop}(hK:∀a w,K a w->Q .normal a w):∀(fuel:Nat) (listed:Array Bool) (a:Act) (w:World),wpAny P md ops (onlyK K) fuel listed a w->wpAny P md ops Q fuel listed a w
 | 0,_,_,_,h=>⟨h.1,hK _ _ h.2⟩
 | fuel+1,_,_,_,h=>⟨fun h0=>hK _ _ (h.1 h0),fun i hi=>wpOp_mono (fun a' w' h'=>wpAny_out hK fuel _ a' w' h') (aSc (h.2 i hi))⟩
theorem wp_region{P:Program}{id:Nat}{Q:Exit->Act->World->Prop}{a:Act}{w:World}{l:List Oper}(C:World->Prop)(n:Nat)(hm:P.follows .mixedOrders=true)(hB:(fineB .any l.toArray n && decide (n+1=l.length))=true)(hC:C w.drew)
 (h:wpQuiet P l.toArray C (fun a'=>∀w',C w'->∀K:Act->World->Prop,(∀a w,Q .normal a w->K a w)->wpList P l.toArray (onlyK K) (l.drop n) a' w') (l.take n) a):(Code.region id l.toArray true).wp P Q a w:=by
 simp only[Bool.and_eq_true,zBQ]at hB;have hf:=bDx hB.1;have hn:n+1=l.toArray.size:=by simpa using hB.2
 refine wp_region_any hm ?_;obtain⟨vs,h1,h2⟩:=aNr (ops:=l.toArray) (l.take n) 0 a (fun j hj=>by
  have:j<n:=by simp at hj;omega
  simp[zBB,this]) h
 have hlen:(l.take n).length=n:=by simp;omega
 rw[hlen]at h1 h2;rw[aVm]at h2;refine wpAny_out (K:=Q .normal) (fun _ _ h=>h) _ _ _ _ ?_;refine aWu (C:=C) (n:=n) hf hn (vs:=vs) (a:=a) w.drew hC ?_ ?_ _ _ _ _ ?_ ?_
 ·intro i hi;obtain⟨o,b,g1,g2,g3⟩:=h1 i hi;rw[aVm]at g3;rw[g3]at g2;exact⟨o,by simpa using g1,g2⟩
 ·intro w' hw';have h3:=h2 w' hw' (Q .normal) (fun _ _ h=>h);have hd:l.drop n= [l[n]'(by simp at hn;omega)]:=by
   have hnl:n<l.length:=by simp at hn;omega
   rw[List.drop_eq_getElem_cons hnl,List.drop_of_length_le (by simp at hn;omega)]
  rw[hd]at h3;unfold wpOp;have:l.toArray[n]? =some (l[n]'(by simp at hn;omega)):=by
   have hnl:n<l.length:=by simp at hn;omega
   simp[hnl]
  simp only[this];simp only[wpList]at h3;split
  ·rename_i hw;rw[if_pos hw]at h3;rcases h3 with h3 |⟨_,h3⟩
   ·exact .inl h3
   ·exact absurd h3 (aKk _)
  ·rename_i hw;rw[if_neg hw]at h3;exact h3
 ·have:∀m,m<=l.toArray.size->unl (Array.replicate l.toArray.size false) m<=m:=by
   intro m;induction m with
   | zero=>intro _;exact zBJ _
   | succ m ih=>intro hm;have:=ih (by omega);simp only[unl];split <;> omega
  exact this _ (zBJ _)
 ·have hz:∀k,(Array.replicate l.toArray.size false).getD k false=false:=fun k=>by simp[Array.getElem?_replicate];split <;> simp
  refine⟨by simp,fun i o _ hl=>(by rw[hz]at hl;cases hl),fun _=>⟨?_,hC⟩,fun h=>(by rw[hz]at h;cases h)⟩;have:∀m,cp l.toArray vs a (fun k=>(Array.replicate l.toArray.size false).getD k false) m=a:=by
   intro m;induction m with
   | zero=>rfl
   | succ m ih=>simp only[cp];rw[if_neg (by rw[hz];simp)];exact ih
  exact(this n).symm
end Rg
structure Ov(W:World)where
 f:World->World
 below:∀u,Below W.heap.size W (f u)
 eq:∀u,Below W.heap.size W u->f u=u
theorem ov_ex(W:World):Nonempty (Ov W):=by
 have h:∀u:World,∃v:World,Below W.heap.size W v/\(Below W.heap.size W u->v=u):=fun u=>by
  by_cases h:Below W.heap.size W u
  ·exact⟨u,h,fun _=>rfl⟩
  ·exact⟨W,Below.refl _ _,fun h'=>absurd h' h⟩
 obtain⟨f,hf⟩:=Classical.axiomOfChoice h;exact⟨⟨f,fun u=>(hf u).1,fun u=>(hf u).2⟩⟩
theorem aWv{W:World}{b o:Nat}{v:Value}(h:W.cell? ⟨b,o,none⟩=some v):b<W.heap.size:=by
 rcases Nat.lt_or_ge b W.heap.size with h' | h'
 ·exact h'
 ·simp[World.cell?,Array.getElem?_eq_none h']at h
theorem Ov.cell{W:World}(ov:Ov W){b o:Nat}{v:Value}(h:W.cell? ⟨b,o,none⟩=some v)(u:World):(ov.f u).cell? ⟨b,o,none⟩=some v:=
 ((ov.below u).cell (p:=⟨b,o,none⟩) (aWv h)).trans h
theorem aFv{P:Program}{f:FuncId}{args:Array Value}{W u:World}{ov:Ov W}{v:Value}(h:Calls P f args (ov.f u) fun e w'=>e= .returned v/\Below (ov.f u).heap.size (ov.f u) w'):
 Calls P f args (ov.f u) fun e w''=>e= .returned v/\∃m,w''=ov.f m:=
 h.mono fun _ w'' ⟨he,hb⟩=>⟨he,w'',(ov.eq _ ((ov.below u).trans (hb.mono (ov.below u).size))).symm⟩
theorem aNs{P:Program}{f:FuncId}{args:Array Value}{W u:World}{ov:Ov W}{v:Value}(h:Calls P f args (ov.f u) fun e w'=>e= .returned v/\ov.f u=w'):
 Calls P f args (ov.f u) fun e w''=>e= .returned v/\∃m,w''=ov.f m:=
 h.mono fun _ w'' ⟨he,hb⟩=>⟨he,u,hb.symm⟩
theorem aJr{P:Program}{f:FuncId}{args:Array Value}{W u:World}{ov:Ov W}{v:Value}(h:Calls P f args (ov.f u) fun e w'=>e= .returned v/\Dr (ov.f u) w'):
 Calls P f args (ov.f u) fun e w''=>e= .returned v/\∃m,w''=ov.f m:=
 aFv (h.mono fun _ w'' ⟨he,hb⟩=>⟨he,hb.below _⟩)
def aEu:List Oper->List Oper
 | []=> []
 | o :: l=>match l with
  | []=> [o]
  | _=>aEu l
def aEv:List Oper->List Oper
 | []=> []
 | o :: l=>match l with
  | []=> []
  | _=>o :: aEv l
theorem aTw(l:List Oper):aEv l=l.take (l.length-1):=by
 induction l with
 | nil=>rfl
 | cons o l ih=>
  cases l with
  | nil=>rfl
  | cons o' l=>show o :: aEv (o' :: l)=_;rw[ih];simp
theorem aTx(l:List Oper):aEu l=l.drop (l.length-1):=by
 induction l with
 | nil=>rfl
 | cons o l ih=>
  cases l with
  | nil=>rfl
  | cons o' l=>show aEu (o' :: l)=_;rw[ih];simp
theorem aDe{P:Program}{id:Nat}{Q:Exit->Act->World->Prop}{a:Act}{w:World}{l:List Oper}(ov:Ov w)(hm:P.follows .mixedOrders=true)(hB:(Rg.fineB .any l.toArray (l.length-1) && decide (l.length-1+1=l.length))=true)
 (h:wpQuiet P l.toArray (fun w'=>∃u,w'=ov.f u) (fun a'=>∀w',(∃u,w'=ov.f u)->∀K:Act->World->Prop,(∀a w,Q .normal a w->K a w)->wpList P l.toArray (Rg.onlyK K) (aEu l) a' w') (aEv l) a):(Code.region id l.toArray true).wp P Q a w:=by
 rw[aTw,aTx]at h;exact Rg.wp_region (fun w'=>∃u,w'=ov.f u) _ hm hB ⟨w.drew,(ov.eq w.drew ⟨rfl,rfl,rfl,zBJ _,fun _ _=>rfl⟩).symm⟩ h
theorem aDq{P:Program}{id:Nat}{Q:Exit->Act->World->Prop}{a:Act}{w:World}{l:List Oper}(ov:Ov w)(hm:P.follows .mixedOrders=true)(hB:Region.lexB .any l.toArray=true)
 (h:wpQuiet P l.toArray (fun w'=>∃u,w'=ov.f u) (fun a'=>∀w',(∃u,w'=ov.f u)->Q .normal a' w') l a):(Code.region id l.toArray true).wp P Q a w:=
 wp_region_quiet (C:=fun w'=>∃u,w'=ov.f u) hm hB ⟨w.drew,(ov.eq w.drew ⟨rfl,rfl,rfl,zBJ _,fun _ _=>rfl⟩).symm⟩ (by simpa using h)
structure Only(L:Nat)(A A':World):Prop where
 os:A'.os=A.os
 tape:A'.tape=A.tape
 output:A'.output=A.output
 size:A'.heap.size=A.heap.size
 block:∀k,k≠L->A'.heap[k]? =A.heap[k]?
theorem Only.put(A:World)(L:Nat)(o:Obj):Only L A (A.putObj L o):=⟨rfl,rfl,rfl,by simp[World.putObj],fun k hk=>World.putObj_heap_other hk⟩
theorem Only.below{L B:Nat}{A A':World}(h:Only L A A')(hB:B<=L):Below B A A':=⟨h.os,h.tape,h.output,zAM h.size.symm,fun k hk=>h.block k (by omega)⟩
structure Two(D:Nat)(A A':World):Prop where
 size:A.heap.size<=A'.heap.size
 d:A'.heap[D]? =A.heap[D]?
 l:A'.heap[D+1]? =A.heap[D+1]?
theorem Two.refl(D:Nat)(A:World):Two D A A:=⟨zBJ _,rfl,rfl⟩
theorem Two.trans{D:Nat}{X Y Z:World}(h:Two D X Y)(k:Two D Y Z):Two D X Z:=⟨zBK h.size k.size,k.d.trans h.d,k.l.trans h.l⟩
def SeqC(P:Program)(gf:FuncId)(lb:Array Value){α:Type}(Arg:α->Array Value->Prop)(SL:World->Prop)(xs:List α)(Wc:World):Prop:=
 ∀(l:Nat) (J:List α->World->Prop),(∀pre A,J pre A->SL A)->
  (∀pre x A args,J pre A->Arg x args->pre ++ [x] <+:xs->YieldAt Fence.wide 0 P l args A fun e A'=>e= .returned (.bool true)/\J (pre ++ [x]) A')->
  J [] Wc->Calls P gf (#[.func (.yield l) #[] #[]]++ lb) Wc fun e w'=>(∃v,e= .returned v)/\J xs w'
def aY3{α:Type}(D:Nat)(I:List α->World->Prop)(xs:List α)(A:World):Exit->Act->World->Prop
 | .normal,_,A'=>Two D A A'/\I xs A'
 | _,_,_=>False
theorem aOp{α:Type}{P:Program}{g:Operand}{ps:Array Tmp}{assign body:Code}{Q:Exit->Act->World->Prop}{a:Act}{w:World}
 {gf:FuncId} {lb:Array Value} (hg:a.eval g= .func (.func gf) #[] lb) (eg:∀args w,(callFunc gf args).run P w= .ok (.enter gf args) w)
 {Arg:α->Array Value->Prop} {SL:World->Prop} {xs:List α} (hseq:∀Wc,Below w.heap.size w Wc->Wc.heap.size=w.heap.size+2->SeqC P gf lb Arg SL xs Wc)
 (hps:∀x args,Arg x args->args.size=ps.size)
 (I:List α->World->Prop) (hI:∀pre A A',I pre A->Only (w.heap.size+1) A A'->I pre A') (hSL:∀pre A,I pre A->SL A) (h0:∀W1,Below w.heap.size w W1->W1.heap.size=w.heap.size+2->I [] W1)
 (a₁:Array Value->Act)
 (hassign:∀(l:Nat) (x:α) (args:Array Value) (A:World) (K:Act->World->Prop),Arg x args->K (a₁ args) A->
  assign.wpIn (Fence.wide.inRound l) 0 P (Exit.then K (fun _ _ _=>False)) {tmps:=(ps.zip args).foldl (fun t (p,v)=>t.setIfInBounds p v) a.tmps,defers:= []} A)
 (hbody:∀(l:Nat) (pre:List α) (x:α) (args:Array Value) (A:World),I pre A->Arg x args->w.heap.size+2<=A.heap.size->pre ++ [x] <+:xs->body.wpIn (Fence.wide.inRound l) 0 P (aY3 w.heap.size I (pre ++ [x]) A) (a₁ args) A)
 (hdone:∀(W:World),I xs W->W.heap[w.heap.size]? =some (.deferred (some []))->w.heap.size+2<=W.heap.size->Q .normal {a with defers:={target:= .collected w.heap.size,args:= #[]} :: a.defers} W):
 (Code.rangeFunc g ps assign body).wp P Q a w:=by
 refine(wpIn_wide (n:=0)).1 (wpIn_rangeFunc ?_);intro fn hfn;obtain⟨rec,hrec⟩:∃rec:LoopState->Option Code->Loop,rec=fun st pe=>{state:=st,pending:=pe,fn,tmps:=a.tmps,params:=ps,assign,body,defers:=w.heap.size}:=⟨_,rfl⟩
 obtain⟨W1,hW1⟩:∃W1,(w.alloc (.deferred (some []))).alloc (.loop (rec .ready none))=W1:=⟨_,rfl⟩;have hL1:W1.heap[w.heap.size+1]? =some (.loop (rec .ready none)):=by
  rw[<-hW1];have:=World.alloc_heap_new (w.alloc (.deferred (some []))) (.loop (rec .ready none));rwa [World.size_alloc]at this
 have hK1:W1.heap[w.heap.size]? =some (.deferred (some [])):=by
  rw[<-hW1];exact(Below.heap_alloc _ _ _ (by simp)).trans (World.alloc_heap_new w _)
 have hB1:Below w.heap.size w W1:=by rw[<-hW1];exact((Below.refl _ w).alloc (zBJ _) _).alloc (by simp) _
 have hsz:W1.heap.size=w.heap.size+2:=by rw[<-hW1];simp
 refine⟨w.heap.size+1, [{target:= .collected w.heap.size,args:= #[]}],W1,{target:= .fn (.func gf) lb,args:= #[.func (.yield (w.heap.size+1)) #[] #[]]},W1,gf,
  #[.func (.yield (w.heap.size+1)) #[] #[]]++ lb,W1,?_,?_,?_,?_,?_,?_⟩
 ·rw[<-hW1,hrec];exact run_enterLoop_outer _ _ _ _ _
 ·simp only[resolve,hg];simp[go_sem]
 ·intro f' hf';trivial
 ·simp[invoke,go_sem,eg]
 ·intro h;simp[Fence.wide]at h
 ·refine callsIn_wide.2 ((hseq W1 hB1 hsz (w.heap.size+1)
   (fun pre W=>I pre W/\W.heap[w.heap.size+1]? =some (.loop (rec .ready none))/\W.heap[w.heap.size]? =some (.deferred (some []))/\w.heap.size+2<=W.heap.size)
   (fun pre A h=>hSL pre A h.1) ?_ ⟨h0 _ hB1 hsz,hL1,hK1,by omega⟩).mono ?_)
  ·rintro pre x A args ⟨hi,hl,hk,hs⟩ harg hpre;have hy:=run_yield (P:=P) (args:=args) hl (by rw[hrec];exact hps x args harg);rw[hrec]at hy;refine⟨fn,_,assign,body,hy,roundIn_of_wpIn hfn (hassign _ x args A _ harg ?_)⟩;clear hy;refine⟨_,run_beginRound hl (by rw[hrec]),?_⟩;have hlt:w.heap.size+1<A.heap.size:=by omega
   have hl2:(A.putObj (w.heap.size+1) (.loop {rec .ready none with state:= .busy})).heap[w.heap.size+1]? =some (.loop {rec .ready none with state:= .busy}):=World.putObj_heap_same hlt;have hk2:(A.putObj (w.heap.size+1) (.loop {rec .ready none with state:= .busy})).heap[w.heap.size]? =some (.deferred (some [])):=(World.putObj_heap_other (by omega)).trans hk;have hs2:(A.putObj (w.heap.size+1) (.loop {rec .ready none with state:= .busy})).heap.size=A.heap.size:=by simp[World.putObj]
   refine wpIn_mono (hbody _ pre x args _ (hI _ _ _ hi (Only.put _ _ _)) harg (by rw[hs2];exact hs) hpre) ?_;rintro e a3 W3 hp;cases e with
   | normal=>
    obtain⟨hk3,hi3⟩:=hp;have hl3:=hk3.l.trans hl2;have hs5:w.heap.size+2<=W3.heap.size:=by have h5:=hk3.size;simp[World.putObj]at h5;omega
    have hr:(Instr.endRound (w.heap.size+1) none).run P W3= .ok (.bool true) (W3.putObj (w.heap.size+1) (.loop (rec .ready none))):=by
     have hr:=run_endRound (P:=P) none hl3;rw[hrec]at hr;rw[hrec];exact hr
    exact⟨_,_,hr,rfl,hI _ _ _ hi3 (Only.put _ _ _),World.putObj_heap_same (by omega),(World.putObj_heap_other (by omega)).trans (hk3.d.trans hk2),by simp[World.putObj];omega⟩
   | ret=>exact hp.elim
   | exit id=>exact hp.elim
   | goto t=>exact hp.elim
   | panic ch=>exact hp.elim
   | outgrown=>exact hp.elim
  ·rintro e W2 ⟨⟨v,rfl⟩,⟨hi,hl,hk,hs⟩⟩;have he:=run_endLoop (P:=P) hl (by rw[hrec];simp);rw[hrec]at he;exact⟨none,_,he,hdone _ (hI _ _ _ hi (Only.put _ _ _)) ((World.putObj_heap_other (by omega)).trans hk) (by simp[World.putObj];omega)⟩
theorem aOq{α:Type}{P:Program}{g:Operand}{ps:Array Tmp}{assign body:Code}{Q:Exit->Act->World->Prop}{a:Act}{w:World}
 {gf:FuncId} {lb:Array Value} (hg:a.eval g= .func (.func gf) #[] lb) (eg:∀args w,(callFunc gf args).run P w= .ok (.enter gf args) w)
 {Arg:α->Array Value->Prop} {SL:World->Prop} {xs:List α} (hseq:∀Wc,Below w.heap.size w Wc->Wc.heap.size=w.heap.size+2->SeqC P gf lb Arg SL xs Wc)
 (hps:∀x args,Arg x args->args.size=ps.size)
 (I:List α->World->Prop) (hI:∀pre A A',I pre A->Only (w.heap.size+1) A A'->I pre A') (hSL:∀pre A,I pre A->SL A) (h0:∀W1,Below w.heap.size w W1->W1.heap.size=w.heap.size+2->I [] W1)
 (a₁:Array Value->World->Act) (fw:Array Value->World->World) (hfw:∀args A,Below A.heap.size A (fw args A))
 (hassign:∀(l:Nat) (x:α) (args:Array Value) (A:World) (K:Act->World->Prop),Arg x args->K (a₁ args A) (fw args A)->
  assign.wpIn (Fence.wide.inRound l) 0 P (Exit.then K (fun _ _ _=>False)) {tmps:=(ps.zip args).foldl (fun t (p,v)=>t.setIfInBounds p v) a.tmps,defers:= []} A)
 (hbody:∀(l:Nat) (pre:List α) (x:α) (args:Array Value) (A Y:World),I pre A->Arg x args->w.heap.size+2<=A.heap.size->pre ++ [x] <+:xs->Only (w.heap.size+1) (fw args A) Y->body.wpIn (Fence.wide.inRound l) 0 P (aY3 w.heap.size I (pre ++ [x]) Y) (a₁ args A) Y)
 (hdone:∀(W:World),I xs W->W.heap[w.heap.size]? =some (.deferred (some []))->w.heap.size+2<=W.heap.size->Q .normal {a with defers:={target:= .collected w.heap.size,args:= #[]} :: a.defers} W):
 (Code.rangeFunc g ps assign body).wp P Q a w:=by
 refine(wpIn_wide (n:=0)).1 (wpIn_rangeFunc ?_);intro fn hfn;obtain⟨rec,hrec⟩:∃rec:LoopState->Option Code->Loop,rec=fun st pe=>{state:=st,pending:=pe,fn,tmps:=a.tmps,params:=ps,assign,body,defers:=w.heap.size}:=⟨_,rfl⟩
 obtain⟨W1,hW1⟩:∃W1,(w.alloc (.deferred (some []))).alloc (.loop (rec .ready none))=W1:=⟨_,rfl⟩;have hL1:W1.heap[w.heap.size+1]? =some (.loop (rec .ready none)):=by
  rw[<-hW1];have:=World.alloc_heap_new (w.alloc (.deferred (some []))) (.loop (rec .ready none));rwa [World.size_alloc]at this
 have hK1:W1.heap[w.heap.size]? =some (.deferred (some [])):=by
  rw[<-hW1];exact(Below.heap_alloc _ _ _ (by simp)).trans (World.alloc_heap_new w _)
 have hB1:Below w.heap.size w W1:=by rw[<-hW1];exact((Below.refl _ w).alloc (zBJ _) _).alloc (by simp) _
 have hsz:W1.heap.size=w.heap.size+2:=by rw[<-hW1];simp
 refine⟨w.heap.size+1, [{target:= .collected w.heap.size,args:= #[]}],W1,{target:= .fn (.func gf) lb,args:= #[.func (.yield (w.heap.size+1)) #[] #[]]},W1,gf,
  #[.func (.yield (w.heap.size+1)) #[] #[]]++ lb,W1,?_,?_,?_,?_,?_,?_⟩
 ·rw[<-hW1,hrec];exact run_enterLoop_outer _ _ _ _ _
 ·simp only[resolve,hg];simp[go_sem]
 ·intro f' hf';trivial
 ·simp[invoke,go_sem,eg]
 ·intro h;simp[Fence.wide]at h
 ·refine callsIn_wide.2 ((hseq W1 hB1 hsz (w.heap.size+1)
   (fun pre W=>I pre W/\W.heap[w.heap.size+1]? =some (.loop (rec .ready none))/\W.heap[w.heap.size]? =some (.deferred (some []))/\w.heap.size+2<=W.heap.size)
   (fun pre A h=>hSL pre A h.1) ?_ ⟨h0 _ hB1 hsz,hL1,hK1,by omega⟩).mono ?_)
  ·rintro pre x A args ⟨hi,hl,hk,hs⟩ harg hpre;have hy:=run_yield (P:=P) (args:=args) hl (by rw[hrec];exact hps x args harg);rw[hrec]at hy;refine⟨fn,_,assign,body,hy,roundIn_of_wpIn hfn (hassign _ x args A _ harg ?_)⟩;clear hy;have hfa:=hfw args A;have hl1:(fw args A).heap[w.heap.size+1]? =some (.loop (rec .ready none)):=(hfa.block _ (by omega)).trans hl;have hk1:(fw args A).heap[w.heap.size]? =some (.deferred (some [])):=(hfa.block _ (by omega)).trans hk;have hs1:w.heap.size+2<=(fw args A).heap.size:=zBK hs hfa.size;refine⟨_,run_beginRound hl1 (by rw[hrec]),?_⟩;have hlt:w.heap.size+1<(fw args A).heap.size:=by omega
   have hl2:((fw args A).putObj (w.heap.size+1) (.loop {rec .ready none with state:= .busy})).heap[w.heap.size+1]? =some (.loop {rec .ready none with state:= .busy}):=World.putObj_heap_same hlt;have hk2:((fw args A).putObj (w.heap.size+1) (.loop {rec .ready none with state:= .busy})).heap[w.heap.size]? =some (.deferred (some [])):=(World.putObj_heap_other (by omega)).trans hk1;have hs2:((fw args A).putObj (w.heap.size+1) (.loop {rec .ready none with state:= .busy})).heap.size=(fw args A).heap.size:=by simp[World.putObj]
   refine wpIn_mono (hbody _ pre x args A _ hi harg hs hpre (Only.put _ _ _)) ?_;rintro e a3 W3 hp;cases e with
   | normal=>
    obtain⟨hk3,hi3⟩:=hp;have hl3:=hk3.l.trans hl2;have hs5:w.heap.size+2<=W3.heap.size:=by have h5:=hk3.size;simp[World.putObj]at h5;omega
    have hr:(Instr.endRound (w.heap.size+1) none).run P W3= .ok (.bool true) (W3.putObj (w.heap.size+1) (.loop (rec .ready none))):=by
     have hr:=run_endRound (P:=P) none hl3;rw[hrec]at hr;rw[hrec];exact hr
    exact⟨_,_,hr,rfl,hI _ _ _ hi3 (Only.put _ _ _),World.putObj_heap_same (by omega),(World.putObj_heap_other (by omega)).trans (hk3.d.trans hk2),by simp[World.putObj];omega⟩
   | ret=>exact hp.elim
   | exit id=>exact hp.elim
   | goto t=>exact hp.elim
   | panic ch=>exact hp.elim
   | outgrown=>exact hp.elim
  ·rintro e W2 ⟨⟨v,rfl⟩,⟨hi,hl,hk,hs⟩⟩;have he:=run_endLoop (P:=P) hl (by rw[hrec];simp);rw[hrec]at he;exact⟨none,_,he,hdone _ (hI _ _ _ hi (Only.put _ _ _)) ((World.putObj_heap_other (by omega)).trans hk) (by simp[World.putObj];omega)⟩
end
end Go.Proofs.YtchdbhggbdcapaaGreat
section
section
namespace Go.Proofs.YtchdbhggbdcapaaGreat
open _root_.Go.Proofs.Tryz
open Go Go.RowKit
theorem aVo{P:Program}{o:Oper}{a:Act}{w:World}{K:Act->World->Prop}{K0:Act->World->Prop}{Q:Exit->Act->World->Prop}(h:o.wp P a w K (Exit.then K0 Q)):o.wp P a w K Q:=by
 unfold Oper.wp at*;generalize (execOp a.eval o).run P w=r at*;cases r with
 | ok n w'=>
  cases n <;> simp only[Oper.upon]at h⊢<;>
   first
    | exact h
    | exact Calls.mono h (fun e w'' he=>by cases e <;> exact he)
 | halt x w'=>cases x <;> simp only[Oper.upon]at h⊢<;> exact h
theorem aNt{P:Program}{md:Region.Mode}{ops:Array Oper}{Q:Exit->Act->World->Prop}:∀(f:Nat) (listed:Array Bool) (a:Act) (w:World),wpAny P md ops Q f listed a w->wpAny P md ops Q (f+1) listed a w
 | 0,_,_,_,h=>⟨fun _=>h.2,fun i hi=>by rw[h.1]at hi;cases hi⟩
 | f+1,listed,a,w,h=>⟨h.1,fun i hi=>wpOp_mono (fun a' w' h'=>aNt f _ a' w' h') (h.2 i hi)⟩
theorem aIx{P:Program}{md:Region.Mode}{ops:Array Oper}{Q:Exit->Act->World->Prop}{f:Nat}{listed:Array Bool}{a:Act}{w:World}(h:wpAny P md ops Q f listed a w):∀k,wpAny P md ops Q (k+f) listed a w
 | 0=>by rw[zBH];exact h
 | k+1=>by rw[show k+1+f=(k+f)+1 by omega];exact aNt _ _ _ _ (aIx h k)
def lexB(md:Region.Mode)(ops:Array Oper)(n:Nat):Bool:=
 (List.range n).all fun i=>match ops[i]? with
  | some o=>o.guard.isNone && o.after.all fun e=>!Region.binds md e || decide (e.on<i)
  | none=>false
theorem aKl{md:Region.Mode}{ops:Array Oper}{n:Nat}(h:lexB md ops n=true){i:Nat}(hi:i<n):∃o,ops[i]? =some o/\o.guard=none/\∀e∈o.after,Region.binds md e=true->e.on<i:=by
 have h1:=zAD.1 h i (zBR.2 hi);cases ho:ops[i]? with
 | none=>rw[ho]at h1;cases h1
 | some o=>
  rw[ho]at h1;simp only[Bool.and_eq_true,Option.isNone_iff_eq_none]at h1;refine⟨o,rfl,h1.1,fun e he hb=>?_⟩;have h2:=Array.all_eq_true_iff_forall_mem.1 h1.2 e he;simpa[hb]using h2
def aFf(n m:Nat):Array Bool:=Array.replicate n true ++ Array.replicate m false
theorem aPo{P:Program}{ops ops':Array Oper}{Q:Exit->Act->World->Prop}{md:Region.Mode}{n:Nat}{tail:List Oper}(hs:Region.sinkB md ops n=true)(hc:Region.chainB md ops n=true)(hn:n<ops.size)(hx:lexB md ops n=true)
 (hsz:ops'.size=n) (hsame:∀i,i<n->ops'[i]? =ops[i]?) (htl:∀j,tail[j]? =ops[n+j]?) (hseq:Region.seqB md ops tail.length n (aFf n (ops.size-n))=true):
 ∀(f:Nat) (listed' listed:Array Bool) (a:Act) (w:World),listed'.size=n->HeadInv md ops n listed->(∀k,k<n->∀d,listed'.getD k d=listed.getD k d)->
  wpAny P md ops' (Exit.then (fun a w=>wpList P ops Q tail a w) Q) f listed' a w->wpAny P md ops Q (f+tail.length) listed a w:=by
 have hready:∀(listed' listed:Array Bool),listed'.size=n->HeadInv md ops n listed->(∀k,k<n->∀d,listed'.getD k d=listed.getD k d)->∀i,i<n->(i∈Region.ready md ops listed↔i∈Region.ready md ops' listed'):=by
  intro listed' listed hl hinv hsm i hi;obtain⟨o,ho,_,hlt⟩:=aKl hx hi;rw[mem_ready,mem_ready,hsame i hi,hsm i hi true];have key:∀e∈o.after,Region.binds md e=true->listed'.getD e.on false=listed.getD e.on false:=fun e he hb=>hsm _ (Nat.lt_trans (hlt e he hb) hi) false
  constructor
  ·rintro⟨h0,o2,ho2,hall⟩;have:o2=o:=zAH (ho2.symm.trans ho);subst this;exact⟨h0,o2,ho2,fun e he hb=>(key e he hb).trans (hall e he hb)⟩
  ·rintro⟨h0,o2,ho2,hall⟩;have:o2=o:=zAH (ho2.symm.trans ho);subst this;exact⟨h0,o2,ho2,fun e he hb=>(key e he hb).symm.trans (hall e he hb)⟩
 have hlow:∀(listed':Array Bool),Region.ready md ops' listed'= []->listed'.size=n->∀i,i<n->listed'.getD i true=true:=by
  intro listed' h0 hl i;induction i using Nat.strongRecOn with
  | _ i ih=>
   intro hi;cases hb:listed'.getD i true with
   | true=>rfl
   | false=>
    exfalso
    obtain⟨o,ho,_,hlt⟩:=aKl hx hi;have:i∈Region.ready md ops' listed':=mem_ready.2 ⟨hb,o,(hsame i hi).trans ho,fun e he hb2=>by
     have h1:=hlt e he hb2;have h2:=ih e.on h1 (by omega);have h3:e.on<listed'.size:=by omega
     simp[h3]at h2⊢;exact h2⟩
    rw[h0]at this;cases this
 have hhead:∀(listed' listed:Array Bool),listed'.size=n->HeadInv md ops n listed->(∀k,k<n->∀d,listed'.getD k d=listed.getD k d)->Region.ready md ops' listed'= []->listed=aFf n (ops.size-n):=by
  intro listed' listed hl hinv hsm h0;apply Array.ext_getElem?;intro k;unfold aFf
  by_cases hk:k<n
  ·have h1:=hlow listed' h0 hl k hk;rw[hsm k hk true]at h1;have h2:k<listed.size:=by rw[hinv.size];omega
   rw[zAR (by simpa using hk)];simp[h2]at h1;simp[h2,h1,hk]
  ·by_cases hk2:k<ops.size
   ·have h1:=hinv.tail k (by omega) hk2;have h2:k<listed.size:=by rw[hinv.size];exact hk2
    rw[zAS (by simp;omega)];simp[h2]at h1;rw[Array.getElem?_eq_getElem h2,h1,Array.getElem?_replicate,if_pos (by simp;omega)]
   ·rw[Array.getElem?_eq_none (by rw[hinv.size];omega),Array.getElem?_eq_none (by simp;omega)]
 intro f;induction f with
 | zero=>
  intro listed' listed a w hl hinv hsm h;obtain⟨h0,hq⟩:=h;rw[zBH,hhead listed' listed hl hinv hsm h0];exact wpAny_of_seq tail n _ a w htl hseq hq
 | succ f ih=>
  intro listed' listed a w hl hinv hsm h;obtain⟨hq,hstep⟩:=h
  by_cases h0:Region.ready md ops' listed'= []
  ·rw[hhead listed' listed hl hinv hsm h0];exact aIx (wpAny_of_seq tail n _ a w htl hseq (hq h0)) _
  ·obtain⟨i,hi⟩:∃i,i∈Region.ready md ops' listed':=List.exists_mem_of_ne_nil _ h0;have hin:i<n:=by
    obtain⟨_,o,ho,_⟩:=mem_ready.1 hi;have:=(gA ho).1;omega
   have hun:listed.getD i true=false:=by rw[<-hsm i hin true];exact(mem_ready.1 hi).1
   have hmem:i∈Region.ready md ops listed:=(hready listed' listed hl hinv hsm i hin).2 hi;rw[show f+1+tail.length=(f+tail.length)+1 by omega];refine⟨fun h1=>absurd hmem (by rw[h1];exact List.not_mem_nil),fun j hj=>?_⟩;have hjn:j<n:=by
    rcases Nat.lt_or_ge j n with h2 | h2
    ·exact h2
    ·exact absurd hj (tail_waits hs hc hn hinv _ i rfl hin hun j h2)
   have hj':=(hready listed' listed hl hinv hsm j hjn).1 hj;have h2:=hstep j hj';obtain⟨o,ho,hg,_⟩:=aKl hx hjn;have hw:∀ys,Region.wanted o ys=true:=fun ys=>by simp[Region.wanted,hg]
   unfold wpOp at h2⊢;rw[hsame j hjn,ho]at h2;rw[ho];simp only[hw,if_true]at h2⊢;refine h2.imp (fun h3=>Oper.wp_mono (fun a' w' h4=>ih _ _ a' w' (by simpa using hl) (hinv.set hj hjn) (fun k hk d=>?_) h4) (aVo h3)) (fun h3=>h3)
   by_cases hjk:j=k
   ·subst hjk;have q1:j<listed'.size:=by omega
    have q2:j<listed.size:=by rw[hinv.size];omega
    simp[q1,q2]
   ·rw[getD_set_ne d hjk,getD_set_ne d hjk];exact hsm k hk d
def aKm(l:List Oper)(n:Nat):Bool:=
 decide (n<l.length) && Region.sinkB .any l.toArray n && Region.chainB .any l.toArray n && lexB .any l.toArray n && Region.seqB .any l.toArray (l.length-n) n (aFf n (l.length-n))
theorem aDw{P:Program}{id:Nat}{Q:Exit->Act->World->Prop}{a:Act}{w:World}{l:List Oper}(n:Nat)(hm:P.follows .mixedOrders=true)(hB:aKm l n=true)
 (h:wpAny P .any (l.take n).toArray (Exit.then (fun a w=>wpList P l.toArray Q (l.drop n) a w) Q) n (Array.replicate n false) a w.drew):(Code.region id l.toArray true).wp P Q a w:=by
 simp only[aKm,Bool.and_eq_true,zBQ]at hB;obtain⟨⟨⟨⟨hn,hs⟩,hc⟩,hx⟩,hq⟩:=hB;have hn':n<l.toArray.size:=by simpa using hn
 refine wp_region_any hm ?_;have hdl:(l.drop n).length=l.length-n:=by simp
 have H:=aPo (P:=P) (Q:=Q) (ops':=(l.take n).toArray) (tail:=l.drop n) hs hc hn' hx (by simp;omega) (fun i hi=>by simp[zBB,hi]) (fun j=>by simp[List.getElem?_drop]) (by rw[hdl];simpa using hq)
  n (Array.replicate n false) (Array.replicate l.toArray.size false) a w.drew (by simp)
  ⟨by simp,fun j oj _ hl=>(by rw[getD_replicate_false]at hl;cases hl),fun t _ ht=>getD_in (by simpa using ht) (getD_replicate_false _ _)⟩
  (fun k hk d => by have : k < l.length := by omega
                    simp[hk,this]) h
 rw[hdl,show n+(l.length-n)=l.toArray.size by simp;omega]at H;exact H
end Go.Proofs.YtchdbhggbdcapaaGreat
end
end
namespace Go.Proofs.YtchdbhggbdcapaaGreat
open _root_.Go.Proofs.Tryz
section
open Go.RowKit
section
variable {P : Program} {ops : Array Oper} {Q : Exit -> Act -> World -> Prop} {md : Region.Mode} {l m : Nat}
theorem aSd{row:String}{args:Array Value}{w:World}{R:Value->World->Prop}(h:Rows P row args w R):RowsIn (Fence.wide.inRound l) m P row args w R:=by
 intro c cs _;obtain⟨v,w',r,s⟩:=h c cs;exact⟨v,w',r,stepsIn_wide.2 s⟩
theorem aWw{o:Oper}{a:Act}{w:World}{K:Act->World->Prop}(hd:∀c,o.op≠ .defer c)(h:o.wp P a w K Q):o.wpIn (Fence.wide.inRound l) m P a w K Q:=by
 refine⟨fun _ _=>trivial,?_⟩;rw[Oper.semAt_eq _ _ _ hd];unfold Oper.wp at h;generalize (execOp a.eval o).run P w=r at*;cases r with
 | ok x w'=>
  cases x with
  | value v=>exact h
  | skip=>exact h
  | defer d=>exact h
  | enter f args=>exact⟨(fun e=>by cases e),CallsIn.inRound l (callsIn_wide.2 h)⟩
  | row row args=>exact⟨(fun e=>by cases e),aSd h⟩
  | _=>exact h.elim
 | halt x w'=>cases x <;> exact h
def aIf(ops:Array Oper):Bool:=ops.all fun o=>match o.op with
 | .defer _=>false
 | _=>true
theorem aWx(h:aIf ops=true){i:Nat}{o:Oper}(hi:ops[i]? =some o):∀c,o.op≠ .defer c:=by
 intro c e;have h1:=Array.all_eq_true'.1 h o (Array.mem_of_getElem? hi);rw[e]at h1;cases h1
theorem aGa(hd:aIf ops=true)(hL:¬LetsOut Q):∀(fuel:Nat) (listed:Array Bool) (a:Act) (w:World),wpAny P md ops Q fuel listed a w->wpAnyIn (Fence.wide.inRound l) m P md ops Q fuel listed a w
 | 0,_,_,_,h=>h
 | fuel+1,listed,a,w,h=>by
  refine⟨h.1,fun i hi=>?_⟩;have h1:=h.2 i hi;unfold wpOp at h1;unfold wpOpIn;cases ho:ops[i]? with
  | none=>
   rw[ho]at h1;exact aGa hd hL fuel _ _ _ h1
  | some o=>
   rw[ho]at h1;simp only at h1⊢;split
   ·rename_i hw;rw[if_pos hw]at h1;rcases h1 with h1 |⟨_,h1⟩
    ·exact Oper.wpIn_mono (fun a w h=>aGa hd hL fuel _ a w h) (aWw (aWx hd ho) h1)
    ·exact absurd h1 hL
   ·rename_i hw;rw[if_neg hw]at h1;exact⟨fun _ _=>trivial,aGa hd hL fuel _ _ _ h1⟩
theorem aGq{id:Nat}{a:Act}{w:World}(hm:P.follows .mixedOrders=true)(hd:aIf ops=true)(hL:¬LetsOut Q)(h:wpAny P .any ops Q ops.size (Array.replicate ops.size false) a w.drew):
 (Code.region id ops true).wpIn (Fence.wide.inRound l) m P Q a w:=wpIn_region_any hm (aGa hd hL _ _ _ _ h)
end
theorem aLl{P:Program}{id m r:Nat}{Q:Exit->Act->World->Prop}{a:Act}{w:World}{l:List Oper}(n:Nat)(hm:P.follows .mixedOrders=true)(hB:aKm l n=true)(hd:aIf l.toArray=true)(hL:¬LetsOut Q)
 (h:wpAny P .any (l.take n).toArray (Exit.then (fun a w=>wpList P l.toArray Q (l.drop n) a w) Q) n (Array.replicate n false) a w.drew):(Code.region id l.toArray true).wpIn (Fence.wide.inRound r) m P Q a w:=by
 simp only[aKm,Bool.and_eq_true,zBQ]at hB;obtain⟨⟨⟨⟨hn,hs⟩,hc⟩,hx⟩,hq⟩:=hB;have hn':n<l.toArray.size:=by simpa using hn
 refine aGq hm hd hL ?_;have hdl:(l.drop n).length=l.length-n:=by simp
 have H:=aPo (P:=P) (Q:=Q) (ops':=(l.take n).toArray) (tail:=l.drop n) hs hc hn' hx (by simp;omega) (fun i hi=>by simp[zBB,hi]) (fun j=>by simp[List.getElem?_drop]) (by rw[hdl];simpa using hq)
  n (Array.replicate n false) (Array.replicate l.toArray.size false) a w.drew (by simp)
  ⟨by simp,fun j oj _ hl=>(by rw[getD_replicate_false]at hl;cases hl),fun t _ ht=>getD_in (by simpa using ht) (getD_replicate_false _ _)⟩
  (fun k hk d => by have : k < l.length := by omega
                    simp[hk,this]) h
 rw[hdl,show n+(l.length-n)=l.toArray.size by simp;omega]at H;exact H
end
section
open Go Go.RowKit
def lexG(md:Region.Mode)(ops:Array Oper)(n:Nat):Bool:=
 (List.range n).all fun i=>match ops[i]? with
  | some o=>(match o.guard with | none=>true | some (q,_)=>decide (q<n)) && o.after.all fun e=>!Region.binds md e || decide (e.on<i)
  | none=>false
theorem aKn{md:Region.Mode}{ops:Array Oper}{n:Nat}(h:lexG md ops n=true){i:Nat}(hi:i<n):∃o,ops[i]? =some o/\(∀q b,o.guard=some (q,b)->q<n)/\∀e∈o.after,Region.binds md e=true->e.on<i:=by
 have h1:=zAD.1 h i (zBR.2 hi);cases ho:ops[i]? with
 | none=>rw[ho]at h1;cases h1
 | some o=>
  rw[ho]at h1;simp only[Bool.and_eq_true]at h1;refine⟨o,rfl,fun q b hg=>?_,fun e he hb=>?_⟩
  ·have:=h1.1;rw[hg]at this;simpa using this
  ·have h2:=Array.all_eq_true_iff_forall_mem.1 h1.2 e he;simpa[hb]using h2
theorem aWy{P:Program}{ops ops':Array Oper}{Q:Exit->Act->World->Prop}{md:Region.Mode}{n:Nat}{tail:List Oper}(hs:Region.sinkB md ops n=true)(hc:Region.chainB md ops n=true)(hn:n<ops.size)(hx:lexG md ops n=true)
 (hsz:ops'.size=n) (hsame:∀i,i<n->ops'[i]? =ops[i]?) (htl:∀j,tail[j]? =ops[n+j]?) (hseq:Region.seqB md ops tail.length n (aFf n (ops.size-n))=true):
 ∀(f:Nat) (listed' listed:Array Bool) (a:Act) (w:World),listed'.size=n->HeadInv md ops n listed->(∀k,k<n->∀d,listed'.getD k d=listed.getD k d)->
  wpAny P md ops' (Exit.then (fun a w=>wpList P ops Q tail a w) Q) f listed' a w->wpAny P md ops Q (f+tail.length) listed a w:=by
 have hready:∀(listed' listed:Array Bool),listed'.size=n->HeadInv md ops n listed->(∀k,k<n->∀d,listed'.getD k d=listed.getD k d)->∀i,i<n->(i∈Region.ready md ops listed↔i∈Region.ready md ops' listed'):=by
  intro listed' listed hl hinv hsm i hi;obtain⟨o,ho,_,hlt⟩:=aKn hx hi;rw[mem_ready,mem_ready,hsame i hi,hsm i hi true];have key:∀e∈o.after,Region.binds md e=true->listed'.getD e.on false=listed.getD e.on false:=fun e he hb=>hsm _ (Nat.lt_trans (hlt e he hb) hi) false
  constructor
  ·rintro⟨h0,o2,ho2,hall⟩;have:o2=o:=zAH (ho2.symm.trans ho);subst this;exact⟨h0,o2,ho2,fun e he hb=>(key e he hb).trans (hall e he hb)⟩
  ·rintro⟨h0,o2,ho2,hall⟩;have:o2=o:=zAH (ho2.symm.trans ho);subst this;exact⟨h0,o2,ho2,fun e he hb=>(key e he hb).symm.trans (hall e he hb)⟩
 have hlow:∀(listed':Array Bool),Region.ready md ops' listed'= []->listed'.size=n->∀i,i<n->listed'.getD i true=true:=by
  intro listed' h0 hl i;induction i using Nat.strongRecOn with
  | _ i ih=>
   intro hi;cases hb:listed'.getD i true with
   | true=>rfl
   | false=>
    exfalso
    obtain⟨o,ho,_,hlt⟩:=aKn hx hi;have:i∈Region.ready md ops' listed':=mem_ready.2 ⟨hb,o,(hsame i hi).trans ho,fun e he hb2=>by
     have h1:=hlt e he hb2;have h2:=ih e.on h1 (by omega);have h3:e.on<listed'.size:=by omega
     simp[h3]at h2⊢;exact h2⟩
    rw[h0]at this;cases this
 have hhead:∀(listed' listed:Array Bool),listed'.size=n->HeadInv md ops n listed->(∀k,k<n->∀d,listed'.getD k d=listed.getD k d)->Region.ready md ops' listed'= []->listed=aFf n (ops.size-n):=by
  intro listed' listed hl hinv hsm h0;apply Array.ext_getElem?;intro k;unfold aFf
  by_cases hk:k<n
  ·have h1:=hlow listed' h0 hl k hk;rw[hsm k hk true]at h1;have h2:k<listed.size:=by rw[hinv.size];omega
   rw[zAR (by simpa using hk)];simp[h2]at h1;simp[h2,h1,hk]
  ·by_cases hk2:k<ops.size
   ·have h1:=hinv.tail k (by omega) hk2;have h2:k<listed.size:=by rw[hinv.size];exact hk2
    rw[zAS (by simp;omega)];simp[h2]at h1;rw[Array.getElem?_eq_getElem h2,h1,Array.getElem?_replicate,if_pos (by simp;omega)]
   ·rw[Array.getElem?_eq_none (by rw[hinv.size];omega),Array.getElem?_eq_none (by simp;omega)]
 intro f;induction f with
 | zero=>
  intro listed' listed a w hl hinv hsm h;obtain⟨h0,hq⟩:=h;rw[zBH,hhead listed' listed hl hinv hsm h0];exact wpAny_of_seq tail n _ a w htl hseq hq
 | succ f ih=>
  intro listed' listed a w hl hinv hsm h;obtain⟨hq,hstep⟩:=h
  by_cases h0:Region.ready md ops' listed'= []
  ·rw[hhead listed' listed hl hinv hsm h0];exact aIx (wpAny_of_seq tail n _ a w htl hseq (hq h0)) _
  ·obtain⟨i,hi⟩:∃i,i∈Region.ready md ops' listed':=List.exists_mem_of_ne_nil _ h0;have hin:i<n:=by
    obtain⟨_,o,ho,_⟩:=mem_ready.1 hi;have:=(gA ho).1;omega
   have hun:listed.getD i true=false:=by rw[<-hsm i hin true];exact(mem_ready.1 hi).1
   have hmem:i∈Region.ready md ops listed:=(hready listed' listed hl hinv hsm i hin).2 hi;rw[show f+1+tail.length=(f+tail.length)+1 by omega];refine⟨fun h1=>absurd hmem (by rw[h1];exact List.not_mem_nil),fun j hj=>?_⟩;have hjn:j<n:=by
    rcases Nat.lt_or_ge j n with h2 | h2
    ·exact h2
    ·exact absurd hj (tail_waits hs hc hn hinv _ i rfl hin hun j h2)
   have hj':=(hready listed' listed hl hinv hsm j hjn).1 hj;have h2:=hstep j hj';obtain⟨o,ho,hg,_⟩:=aKn hx hjn;have hfin:∀(a':Act) (w':World),wpAny P md ops' (Exit.then (fun a w=>wpList P ops Q tail a w) Q) f (listed'.setIfInBounds j true) a' w'->wpAny P md ops Q (f+tail.length) (listed.setIfInBounds j true) a' w':=fun a' w' h4=>ih _ _ a' w' (by simpa using hl) (hinv.set hj hjn) (fun k hk d=>?_) h4
   ·have hw:Region.wanted o (yielded ops' a.tmps)=Region.wanted o (yielded ops a.tmps):=by
     unfold Region.wanted;cases hgd:o.guard with
     | none=>rfl
     | some p=>
      obtain⟨q,bb⟩:=p;have:=hg q bb hgd
      show(yielded ops' a.tmps q == some bb)=(yielded ops a.tmps q == some bb)
      unfold yielded;rw[hsame q this]
    unfold wpOp at h2⊢;rw[hsame j hjn,ho]at h2;rw[ho];simp only[hw]at h2⊢
    by_cases hwn:Region.wanted o (yielded ops a.tmps)=true
    ·rw[if_pos hwn]at h2⊢;exact h2.imp (fun h3=>Oper.wp_mono (fun a' w' h4=>hfin a' w' h4) (aVo h3)) (fun h3=>h3)
    ·rw[if_neg hwn]at h2⊢;exact hfin _ _ h2
   by_cases hjk:j=k
   ·subst hjk;have q1:j<listed'.size:=by omega
    have q2:j<listed.size:=by rw[hinv.size];omega
    simp[q1,q2]
   ·rw[getD_set_ne d hjk,getD_set_ne d hjk];exact hsm k hk d
def aY4(l:List Oper)(n:Nat):Bool:=
 decide (n<l.length) && Region.sinkB .any l.toArray n && Region.chainB .any l.toArray n && lexG .any l.toArray n && Region.seqB .any l.toArray (l.length-n) n (aFf n (l.length-n))
theorem aKo{P:Program}{id m r:Nat}{Q:Exit->Act->World->Prop}{a:Act}{w:World}{l:List Oper}(n:Nat)(hm:P.follows .mixedOrders=true)(hB:aY4 l n=true)(hd:aIf l.toArray=true)(hL:¬LetsOut Q)
 (h:wpAny P .any (l.take n).toArray (Exit.then (fun a w=>wpList P l.toArray Q (l.drop n) a w) Q) n (Array.replicate n false) a w.drew):(Code.region id l.toArray true).wpIn (Fence.wide.inRound r) m P Q a w:=by
 simp only[aY4,Bool.and_eq_true,zBQ]at hB;obtain⟨⟨⟨⟨hn,hs⟩,hc⟩,hx⟩,hq⟩:=hB;have hn':n<l.toArray.size:=by simpa using hn
 refine aGq hm hd hL ?_;have hdl:(l.drop n).length=l.length-n:=by simp
 have H:=aWy (P:=P) (Q:=Q) (ops':=(l.take n).toArray) (tail:=l.drop n) hs hc hn' hx (by simp;omega) (fun i hi=>by simp[zBB,hi]) (fun j=>by simp[List.getElem?_drop]) (by rw[hdl];simpa using hq)
  n (Array.replicate n false) (Array.replicate l.toArray.size false) a w.drew (by simp)
  ⟨by simp,fun j oj _ hl=>(by rw[getD_replicate_false]at hl;cases hl),fun t _ ht=>getD_in (by simpa using ht) (getD_replicate_false _ _)⟩
  (fun k hk d => by have : k < l.length := by omega
                    simp[hk,this]) h
 rw[hdl,show n+(l.length-n)=l.toArray.size by simp;omega]at H;exact H
end
end Go.Proofs.YtchdbhggbdcapaaGreat
