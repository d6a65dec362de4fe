/- Part. -/
import Derived.Test.YtchdbhggbdcapaaGreatSuLX
import Derived.Test.YtchdbhggbdcapaaGreatSu12
import Derived.Test.YtchdbhggbdcapaaGreatSu01
import Derived.Lib.RowBridge
set_option linter.unusedVariables false
set_option linter.unusedSimpArgs false
set_option maxRecDepth 100000
set_option maxHeartbeats 16000000
namespace Go.Proofs.YtchdbhggbdcapaaGreat
open _root_.Go.Proofs.Tryz
section
open Go.RowKit
namespace Gro
open Rg
section
variable {P : Program} {ops : Array Oper} {md : Region.Mode}
def vg(al:Nat->Bool)(vs g:Nat->Value)(k:Nat):Value:=if al k then g k else vs k
structure FineG(md:Region.Mode)(ops:Array Oper)(al:Nat->Bool):Prop where
 sel:∀(j:Nat) (o:Oper) cs b,ops[j]? =some o->o.op≠ .select cs b
 apart:∀(i j:Nat) (t:Tmp),i<ops.size->j<ops.size->i≠j->dst ops i=some t->dst ops j≠some t
 dep:∀(i:Nat) (o:Oper) (t:Tmp) (k:Nat),ops[i]? =some o->t∈o.looksAt ops->dst ops k=some t->(al i=false->al k=false)/\∃e∈o.after,Region.binds md e=true/\e.on=k
 lex:∀(i:Nat) (o:Oper) (e:Edge),ops[i]? =some o->e∈o.after->Region.binds md e=true->e.on<i
def Edg(md:Region.Mode)(o:Oper)(k:Nat):Prop:=∃e∈o.after,Region.binds md e=true/\e.on=k
structure InvG(bl:Value->Option Nat)(rt:Nat->Nat)(us:Nat->Option Nat)(Φ:Nat->Value->World->Prop)(md:Region.Mode)(ops:Array Oper)(al:Nat->Bool)(W:World)(vs:Nat->Value)(a:Act)(listed:Array Bool)(g:Nat->Value)(act:Act)(w:World):Prop where
 size:listed.size=ops.size
 act:act=cp ops (vg al vs g) a (fun k=>listed.getD k false) ops.size
 below:Below W.heap.size W w
 fact:∀k,k<ops.size->al k=true->listed.getD k false=true->(∀j,us j=some k->listed.getD j false=false)->Φ k (g k) w
 lt:∀k,k<ops.size->al k=true->listed.getD k false=true->∀r,bl (g k)=some r->W.heap.size<=r/\r<w.heap.size
 ne:∀k k',k<ops.size->k'<ops.size->al k=true->al k'=true->listed.getD k false=true->listed.getD k' false=true->rt k≠rt k'->∀r,bl (g k)=some r->bl (g k')≠some r
def Makes(P:Program)(bl:Value->Option Nat)(rt:Nat->Nat)(us:Nat->Option Nat)(Φ:Nat->Value->World->Prop)(md:Region.Mode)(ops:Array Oper)(al:Nat->Bool)(W:World)(vs:Nat->Value)(a:Act)(i:Nat)(o:Oper):Prop:=
 ∀(X:World) (act:Act) (u:Nat->Value),Below W.heap.size W X->(∀k,Edg md o k->al k=true->Φ k (u k) X/\∀r,bl (u k)=some r->W.heap.size<=r/\r<X.heap.size)->
  (∀t k,t∈o.looksAt ops->dst ops k=some t->t<a.tmps.size->act.eval (.tmp t)=vg al vs u k)->
  ∀K:Act->World->Prop,(∀v X',X.grownBy X' ((us i).bind fun b=>bl (u b))->Φ i v X'->(∀r,bl v=some r->r<X'.heap.size/\(X.heap.size<=r\/∃k,Edg md o k/\al k=true/\rt k=rt i/\bl (u k)=some r))->K (act.put o.dst v) X')->wpOp P ops (onlyK K) i K act X
theorem cp_vals{vs vs':Nat->Value}(a:Act)(c:Nat->Bool)(m:Nat)(h:∀k,k<m->c k=true->vs k=vs' k):cp ops vs a c m=cp ops vs' a c m:=by
 induction m with
 | zero=>rfl
 | succ m ih=>
  simp only[cp,ih fun k hk=>h k (by omega)];split
  ·rename_i hc;rw[h m (by omega) hc]
  ·rfl
theorem aUj{al:Nat->Bool}(hf:FineG md ops al){listed:Array Bool}(hs:listed.size=ops.size)(m:Nat)(hm:m<=ops.size)(h:∃k,k<m/\listed.getD k true=false):∃i,i∈Region.ready md ops listed:=by
 induction m with
 | zero=>obtain⟨k,hk,_⟩:=h;omega
 | succ m ih=>
  by_cases h':∃k,k<m/\listed.getD k true=false
  ·exact ih (by omega) h'
  ·obtain⟨k,hk,hl⟩:=h;have e:k=m:=by
    rcases Nat.lt_or_ge k m with h1 | h1
    ·exact absurd ⟨k,h1,hl⟩ h'
    ·omega
   subst e;have hks:k<ops.size:=by omega
   refine⟨k,mem_ready.2 ⟨hl,ops[k],Array.getElem?_eq_getElem hks,fun e he hb=>?_⟩⟩;have hlt:=hf.lex k _ e (Array.getElem?_eq_getElem hks) he hb;have:¬listed.getD e.on true=false:=fun h1=>h' ⟨e.on,hlt,h1⟩
   rw[aE8 (by omega) false true];simpa using this
theorem any_gro{bl:Value->Option Nat}{rt:Nat->Nat}{us:Nat->Option Nat}{Φ:Nat->Value->World->Prop}{al:Nat->Bool}(hf:FineG md ops al){W:World}{vs:Nat->Value}{a:Act}{K:Act->World->Prop}
 (hq:∀i,i<ops.size->al i=false->∃o,ops[i]? =some o/\∀X,Below W.heap.size W X->YieldsIn P ops (fun Y=>Below X.heap.size X Y) o (vs i) (cp ops vs a (fun k=>!al k) i))
 (hst:∀k v X X' row,Φ k v X->X.grownBy X' row->(∀r,bl v=some r->r<X.heap.size/\row≠some r)->Φ k v X')
 (hrt:∀i b k,us i=some b->rt k=rt i->k=i\/k=b)
 (hub:∀i b o,us i=some b->ops[i]? =some o->al b=true/\rt b=rt i/\Edg md o b)
 (huse:∀i o k j,ops[i]? =some o->al i=true->Edg md o k->us j=some k->j=i)
 (hm:∀i o,ops[i]? =some o->al i=true->Makes P bl rt us Φ md ops al W vs a i o)
 (hK:∀(g:Nat->Value) w,Below W.heap.size W w->(∀k,k<ops.size->al k=true->(∀j,us j≠some k)->Φ k (g k) w)->(∀k,k<ops.size->al k=true->∀r,bl (g k)=some r->W.heap.size<=r/\r<w.heap.size)->(∀k k',k<ops.size->k'<ops.size->al k=true->al k'=true->rt k≠rt k'->∀r,bl (g k)=some r->bl (g k')≠some r)->K (cp ops (vg al vs g) a (fun _=>true) ops.size) w):
 ∀(fuel:Nat) (listed:Array Bool) (g:Nat->Value) (act:Act) (w:World),unl listed ops.size<=fuel->InvG bl rt us Φ md ops al W vs a listed g act w->wpAny P md ops (onlyK K) fuel listed act w:=by
 intro fuel;have done:∀(listed:Array Bool) (g:Nat->Value) (act:Act) (w:World),unl listed ops.size=0->InvG bl rt us Φ md ops al W vs a listed g act w->onlyK K .normal act w:=by
  intro listed g act w h0 I;have hall:=aIw h0;have hall':∀k,k<ops.size->listed.getD k false=true:=fun k hk=>by rw[aE8 (by rw[I.size];omega) false true];exact hall k hk
  show K act w
  rw[I.act,aIv (ops:=ops) (vg al vs g) a (c':=fun _=>true) ops.size fun k hk=>hall' k hk];exact hK g w I.below (fun k hk hak hu=>I.fact k hk hak (hall' k hk) (fun j hj=>absurd hj (hu j))) (fun k hk hak=>I.lt k hk hak (hall' k hk)) (fun k k' hk hk' h1 h2=>I.ne k k' hk hk' h1 h2 (hall' k hk) (hall' k' hk'))
 have noReady:∀(listed:Array Bool) (g:Nat->Value) (act:Act) (w:World),InvG bl rt us Φ md ops al W vs a listed g act w->Region.ready md ops listed= []->unl listed ops.size=0:=by
  intro listed g act w I hr;rcases Nat.eq_zero_or_pos (unl listed ops.size)with h | h
  ·exact h
  ·have hex:∃k,k<ops.size/\listed.getD k true=false:=by
    apply zAI;intro hno;have:∀m,m<=ops.size->unl listed m=0:=by
     intro m;induction m with
     | zero=>intro _;rfl
     | succ m ih=>
      intro hm;simp only[unl,ih (by omega)];cases hl:listed.getD m true
      ·exact absurd ⟨m,by omega,hl⟩ hno
      ·simp
    have:=this _ (zBJ _);omega
   obtain⟨i,hi⟩:=aUj hf I.size ops.size (zBJ _) hex;rw[hr]at hi;cases hi
 induction fuel with
 | zero=>
  intro listed g act w hu I;have h0:unl listed ops.size=0:=by omega
  refine⟨?_,done listed g act w h0 I⟩;have hall:=aIw h0;cases hr:Region.ready md ops listed with
  | nil=>rfl
  | cons i r=>
   have hi:i∈Region.ready md ops listed:=by rw[hr];simp
   obtain⟨h1,o,ho,_⟩:=mem_ready.1 hi;rw[hall i (at_lt ho)]at h1;cases h1
 | succ fuel ih=>
  intro listed g act w hu I;refine⟨fun hr=>done listed g act w (noReady listed g act w I hr) I,fun i hi=>?_⟩;obtain⟨hun,o,ho,hedges⟩:=mem_ready.1 hi;have hilt:=at_lt ho;have hun':listed.getD i false=false:=by rw[aE8 (by rw[I.size];omega) false true];exact hun
  have hcount:=aVn hun ops.size hilt;have his:i<listed.size:=by rw[I.size];exact hilt
  have hset:(listed.setIfInBounds i true).getD i false=true:=by simp[his]
  have hother:∀k,k≠i->(listed.setIfInBounds i true).getD k false=listed.getD k false:=fun k hk=>getD_set_ne false (fun e=>hk e.symm)
  have hdi:dst ops i=o.dst:=by simp[dst,ho]
  have hle:∀k,Edg md o k->k<i/\listed.getD k false=true:=fun k ⟨e,he,hb,hon⟩=>⟨by rw[<-hon];exact hf.lex i o e ho he hb,by rw[<-hon];exact hedges e he hb⟩
  cases hal:al i with
  | false=>
   obtain⟨o2,ho2,hy⟩:=hq i hilt hal;rw[ho]at ho2;cases ho2;have evs:∀t,t∈o.looksAt ops->act.eval (.tmp t)=(cp ops vs a (fun k=>!al k) i).eval (.tmp t):=by
    intro t ht;rw[I.act]
    by_cases hex:∃k,k<ops.size/\dst ops k=some t
    ·obtain⟨k,hk,hd⟩:=hex;obtain⟨hak,hed⟩:=hf.dep i o t k ho ht hd;have hak:=hak hal;obtain⟨hki,hkl⟩:=hle k hed;rw[eval_hit (vg al vs g) a _ t k hd hkl ops.size hk fun j hj hjk=>hf.apart k j t (aD6 hd) (by omega) (fun e=>hjk e.symm) hd,
      eval_hit vs a _ t k hd (by simp[hak]) i hki fun j hj hjk=>hf.apart k j t (aD6 hd) (by omega) (fun e=>hjk e.symm) hd]
     unfold vg;rw[hak];rfl
    ·have hno:∀k,k<ops.size->dst ops k≠some t:=fun k hk hd=>hex ⟨k,hk,hd⟩
     rw[aHx (vg al vs g) a _ t ops.size hno,aHx vs a _ t i fun k hk=>hno k (by omega)]
   obtain⟨e1,e2⟩:=aE2 (hf.sel i o · · ho) evs;have hy':=(hy w I.below).of_same e1 e2;refine wpOp_of_qOp (C:=fun Y=>Below w.heap.size w Y) (K:=fun a'=>a'=act.put o.dst (vs i)) (Below.refl _ _) ?_ (hy'.qOp ho rfl);rintro a' w' hw' rfl;have hgr:w.grownBy w' none:=⟨hw'.os,hw'.tape,hw'.output,hw'.size,fun k hk _=>hw'.block k hk⟩;refine ih _ g _ _ (by omega) ⟨by simp[I.size],?_,I.below.trans (hw'.mono I.below.size),fun k hk hak hkl hu=>?_,fun k hk hak hkl r hr=>?_,fun k k' hk hk' h1 h2 hl hl' hne=>?_⟩
   ·have:=aNq (ops:=ops) (vg al vs g) a (c:=fun k=>listed.getD k false) (c':=fun k=>(listed.setIfInBounds i true).getD k false) i ops.size hilt hun' hset hother (fun k t hk hki hd=>hf.apart k i t (aD6 hd) hilt hki hd);rw[this,<-I.act,hdi];unfold vg;rw[hal];rfl
   ·have hki:k≠i:=by rintro rfl;rw[hal]at hak;cases hak
    rw[hother k hki]at hkl;refine hst k _ w w' none (I.fact k hk hak hkl fun j hj=>?_) hgr fun r hr=>⟨(I.lt k hk hak hkl r hr).2,by simp⟩
    have hju:=hu j hj
    by_cases hji:j=i
    ·subst hji;rw[hset]at hju;cases hju
    ·rwa [hother j hji]at hju
   ·have hki:k≠i:=by rintro rfl;rw[hal]at hak;cases hak
    rw[hother k hki]at hkl;have:=I.lt k hk hak hkl r hr;have:=hw'.size;omega
   ·have hki:k≠i:=by rintro rfl;rw[hal]at h1;cases h1
    have hki':k'≠i:=by rintro rfl;rw[hal]at h2;cases h2
    rw[hother k hki]at hl;rw[hother k' hki']at hl';exact I.ne k k' hk hk' h1 h2 hl hl' hne
  | true=>
   refine aSc (hm i o ho hal w act g I.below (fun k hed hak=>?_) (fun t k ht hd hts=>?_) _ (fun v X' hgr hΦ hbl=>?_))
   ·obtain⟨hki,hkl⟩:=hle k hed;refine⟨I.fact k (by omega) hak hkl fun j hj=>?_,I.lt k (by omega) hak hkl⟩;rw[huse i o k j ho hal hed hj];exact hun'
   ·obtain⟨_,hed⟩:=hf.dep i o t k ho ht hd;obtain⟨hki,hkl⟩:=hle k hed;rw[I.act,eval_hit (vg al vs g) a _ t k hd hkl ops.size (by omega) fun j hj hjk=>hf.apart k j t (aD6 hd) (by omega) (fun e=>hjk e.symm) hd,if_pos hts]
   ·have hrow:∀r,((us i).bind fun b=>bl (g b))=some r->∃b,us i=some b/\bl (g b)=some r/\al b=true/\rt b=rt i/\b<ops.size/\listed.getD b false=true:=fun r hr=>by
     cases hu:us i with
     | none=>rw[hu]at hr;cases hr
     | some b=>
      rw[hu]at hr;obtain⟨h1,h2,h3⟩:=hub i b o hu ho;obtain⟨h4,h5⟩:=hle b h3;exact⟨b,rfl,hr,h1,h2,by omega,h5⟩
    have hold:∀k,k<ops.size->al k=true->listed.getD k false=true->∀r,bl (g k)=some r->r<w.heap.size:=fun k hk hak hl r hr=>(I.lt k hk hak hl r hr).2
    refine ih _ (fun k=>if k=i then v else g k) _ _ (by omega) ⟨by simp[I.size],?_,I.below.grown hgr I.below.size fun r hr=>?_,fun k hk hak hkl hu=>?_,fun k hk hak hkl r hr=>?_,fun k k' hk hk' h1 h2 hl hl' hne r hr=>?_⟩
    ·have:=aNq (ops:=ops) (vg al vs (fun k=>if k=i then v else g k)) a (c:=fun k=>listed.getD k false) (c':=fun k=>(listed.setIfInBounds i true).getD k false) i ops.size hilt hun' hset hother (fun k t hk hki hd=>hf.apart k i t (aD6 hd) hilt hki hd);rw[this,hdi,I.act];have e:cp ops (vg al vs g) a (fun k=>listed.getD k false) ops.size=cp ops (vg al vs (fun k=>if k=i then v else g k)) a (fun k=>listed.getD k false) ops.size:=by
      refine cp_vals a _ _ fun k hk hkl=>?_
      have hki:k≠i:=by rintro rfl;rw[hun']at hkl;cases hkl
      unfold vg;simp only[if_neg hki]
     rw[e]
     congr 1
     unfold vg;simp[hal]
    ·obtain⟨b,_,h2,h3,_,h5,h6⟩:=hrow r hr;exact(I.lt b h5 h3 h6 r h2).1
    ·by_cases hki:k=i
     ·subst hki;simp only[if_true];exact hΦ
     ·simp only[if_neg hki];rw[hother k hki]at hkl;have hui:us i≠some k:=fun e=>by have:=hu i e;rw[hset]at this;cases this
      refine hst k _ w X' _ (I.fact k hk hak hkl fun j hj=>?_) hgr fun r hr=>⟨hold k hk hak hkl r hr,fun e=>?_⟩
      ·have hju:=hu j hj
       by_cases hji:j=i
       ·subst hji;exact absurd hj hui
       ·rwa [hother j hji]at hju
      ·obtain⟨b,b1,b2,b3,b4,b5,b6⟩:=hrow r e
       by_cases hrk:rt k=rt i
       ·rcases hrt i b k b1 hrk with e | e
        ·exact hki e
        ·exact hui (by rw[b1,e])
       ·exact I.ne k b hk b5 hak b3 hkl b6 (fun e=>hrk (e.trans b4)) r hr b2
    ·by_cases hki:k=i
     ·subst hki;simp only[if_true]at hr;obtain⟨h1,h2⟩:=hbl r hr;refine⟨?_,h1⟩;rcases h2 with h2 |⟨q,q1,q2,_,q4⟩
      ·exact zBK I.below.size h2
      ·obtain⟨q5,q6⟩:=hle q q1;exact(I.lt q (by omega) q2 q6 r q4).1
     ·simp only[if_neg hki]at hr;rw[hother k hki]at hkl;have:=I.lt k hk hak hkl r hr;have:=hgr.size;omega
    ·have key:∀q,q<ops.size->q≠i->al q=true->listed.getD q false=true->rt q≠rt i->bl (g q)=some r->bl v=some r->False:=fun q hq hqi hqa hql hqr hqb hv=>by
      obtain⟨_,h2⟩:=hbl r hv;rcases h2 with h2 |⟨m,m1,m2,m3,m4⟩
      ·have:=hold q hq hqa hql r hqb;omega
      ·obtain⟨m5,m6⟩:=hle m m1;exact I.ne q m hq (by omega) hqa m2 hql m6 (fun e=>hqr (e.trans m3)) r hqb m4
     by_cases hki:k=i
     ·have hki':k'≠i:=fun e=>hne (by rw[hki,e])
      subst hki;simp only[if_true]at hr;simp only[if_neg hki'];rw[hother k' hki']at hl';exact fun hv=>key k' hk' hki' h2 hl' (fun e=>hne e.symm) hv hr
     ·simp only[if_neg hki]at hr;rw[hother k hki]at hl
      by_cases hki':k'=i
      ·subst hki';simp only[if_true];exact fun hv=>key k hk hki h1 hl hne hr hv
      ·simp only[if_neg hki'];rw[hother k' hki']at hl';exact I.ne k k' hk hk' h1 h2 hl hl' hne r hr
end
end Gro
namespace Gro
open Rg
def qlist(al:Nat->Bool):Nat->List Oper->List Oper
 | _, []=> []
 | k,o :: r=>if al k then qlist al (k+1) r else o :: qlist al (k+1) r
section
variable {P : Program} {ops : Array Oper} {md : Region.Mode} {C : World -> Prop}
def fld(ops:Array Oper)(al:Nat->Bool)(vs:Nat->Value)(k m:Nat)(a:Act):Act:=(List.range m).foldl (fun a i=>if al (k+i)then a else a.put (dst ops (k+i)) (vs (k+i))) a
theorem aMr(al:Nat->Bool)(vs:Nat->Value)(k m:Nat)(a:Act):fld ops al vs k (m+1) a=fld ops al vs (k+1) m (if al k then a else a.put (dst ops k) (vs k)):=by
 unfold fld;rw[List.range_succ_eq_map,List.foldl_cons,List.foldl_map];simp only[zBI]
 congr 1
 funext b i
 simp[Nat.add_assoc,Nat.add_comm 1 i]
theorem aZq(al:Nat->Bool){vs vs':Nat->Value}(k m:Nat)(a:Act)(h:∀i,k<=i->vs i=vs' i):fld ops al vs k m a=fld ops al vs' k m a:=by
 unfold fld
 congr 1
 funext b i
 rw[h (k+i) (by omega)]
theorem fld_cp(al:Nat->Bool)(vs:Nat->Value)(a:Act)(m:Nat):fld ops al vs 0 m a=cp ops vs a (fun k=>!al k) m:=by
 induction m with
 | zero=>rfl
 | succ m ih=>
  unfold fld at ih⊢;rw[List.range_succ,List.foldl_append,ih];simp only[List.foldl_cons,List.foldl_nil,zBH,cp]
  by_cases hal:al m=true <;> simp[hal]
theorem q_values{Q:Act->Prop}(al:Nat->Bool):∀(l:List Oper) (k:Nat) (a:Act),(∀j,j<l.length->l[j]? =ops[k+j]?)->wpQuiet P ops C Q (qlist al k l) a->
 ∃vs:Nat->Value,(∀j,j<l.length->al (k+j)=false->∃o,ops[k+j]? =some o/\YieldsIn P ops C o (vs (k+j)) (fld ops al vs k j a))/\Q (fld ops al vs k l.length a)
 | [],k,a,_,h=>⟨fun _=>undef,fun j hj=>absurd hj (by simp),h⟩
 | o :: rest,k,a,hl,h=>by
  have ho:ops[k]? =some o:=by have:=hl 0 (by simp);simpa using this.symm
  have hd:dst ops k=o.dst:=by simp[dst,ho]
  have hl':∀j,j<rest.length->rest[j]? =ops[k+1+j]? :=fun j hj=>by
   have:=hl (j+1) (by simp;omega);simpa[Nat.add_assoc,Nat.add_comm 1 j]using this
  unfold qlist at h;cases hal:al k with
  | true=>
   rw[hal,if_pos rfl]at h;obtain⟨vs,h1,h2⟩:=q_values al rest (k+1) a hl' h;refine⟨vs,fun j hj hf=>?_,?_⟩
   ·cases j with
    | zero=>rw[zBI,hal]at hf;cases hf
    | succ j=>
     obtain⟨o',g1,g2⟩:=h1 j (by simp at hj;omega) (by rw[<-hf];congr 1;omega);rw[aMr,hal,if_pos rfl,show k+(j+1)=k+1+j by omega];exact⟨o',g1,g2⟩
   ·rw[List.length_cons,aMr,hal,if_pos rfl];exact h2
  | false=>
   rw[hal,if_neg (by simp)]at h;have h':qOp P ops C k (wpQuiet P ops C Q (qlist al (k+1) rest)) a:=by
    unfold qOp;simp only[ho];exact h
   obtain⟨v,hy,hr⟩:=yieldsIn_of_qOp ho h';obtain⟨vs,h1,h2⟩:=q_values al rest (k+1) (a.put o.dst v) hl' hr;have hv:∀i,k+1<=i->vs i=(fun i=>if i=k then v else vs i) i:=fun i hi=>(if_neg (show¬i=k by omega)).symm
   have hf0:∀m,fld ops al (fun i=>if i=k then v else vs i) k (m+1) a=fld ops al vs (k+1) m (a.put o.dst v):=fun m=>by
    rw[aMr,hal,if_neg (by simp),hd,if_pos rfl,<-aZq al (k+1) m _ hv]
   refine⟨fun i=>if i=k then v else vs i,fun j hj hf=>?_,?_⟩
   ·cases j with
    | zero=>exact⟨o,by simpa using ho,by simpa[fld]using hy⟩
    | succ j=>
     obtain⟨o',g1,g2⟩:=h1 j (by simp at hj;omega) (by rw[<-hf];congr 1;omega);rw[hf0,show k+(j+1)=k+1+j by omega];refine⟨o',g1,?_⟩;rw[hv _ (by omega)]at g2;exact g2
   ·rw[List.length_cons,hf0];exact h2
theorem aF6(al:Nat->Bool)(g:Nat->Value)(x:Option Tmp)(v:Value):∀(l:List Nat) (a:Act),(∀k∈l,al k=true->∀t,x=some t->dst ops k≠some t)->
 l.foldl (fun a k=>if al k then a.put (dst ops k) (g k)else a) (a.put x v)=(l.foldl (fun a k=>if al k then a.put (dst ops k) (g k)else a) a).put x v
 | [],a,_=>rfl
 | k :: l,a,h=>by
  simp only[List.foldl_cons];cases hal:al k with
  | true=>
   simp only[if_true];rw[Act.put_comm a v (g k) (h k (List.mem_cons_self ..) hal)];exact aF6 al g x v l _ fun k hk=>h k (zAQ _ hk)
  | false=>
   simp only[Bool.false_eq_true,if_false];exact aF6 al g x v l _ fun k hk=>h k (zAQ _ hk)
theorem cp_vg(al:Nat->Bool)(vs g:Nat->Value)(a:Act):∀(n:Nat),n<=ops.size->(∀(i j:Nat) (t:Tmp),i<ops.size->j<ops.size->i≠j->dst ops i=some t->dst ops j≠some t)->
 cp ops (vg al vs g) a (fun _=>true) n=(List.range n).foldl (fun a k=>if al k then a.put (dst ops k) (g k)else a) (cp ops vs a (fun k=>!al k) n)
 | 0,_,_=>rfl
 | n+1,hn,h=>by
  simp only[cp,if_true];rw[cp_vg al vs g a n (by omega) h,List.range_succ,List.foldl_append];simp only[List.foldl_cons,List.foldl_nil]
  by_cases hal:al n=true
  ·rw[if_pos hal,if_neg (show¬(!al n)=true by simp[hal])]
   congr 1
   unfold vg;rw[if_pos hal]
  ·rw[if_neg hal,if_pos (show(!al n)=true by simp[hal])];rw[aF6]
   ·congr 1
    unfold vg;rw[if_neg hal]
   ·intro k hk _ t ht;have:=zBR.1 hk;exact h n k t (by omega) (by omega) (by omega) ht
def groB(md:Region.Mode)(ops:Array Oper)(al:Nat->Bool):Bool:=
 Region.noSelect ops &&
 ((List.range ops.size).all fun i=>(List.range ops.size).all fun j=>i == j ||(dst ops i).isNone || dst ops i != dst ops j) &&
 ((List.range ops.size).all fun i => match ops[i]? with
   | none=>true
   | some o=>(o.after.all fun e=>!Region.binds md e || decide (e.on<i)) &&
    ((o.looksAt ops).all fun t=>(List.range ops.size).all fun k=>dst ops k != some t ||((al i || !al k) && o.after.any fun e=>Region.binds md e && e.on == k)))
theorem fineG_of{al:Nat->Bool}(h:groB md ops al=true):FineG md ops al:=by
 unfold groB at h;simp only[Bool.and_eq_true]at h;obtain⟨⟨h1,h2⟩,h3⟩:=h;rw[zAD]at h2 h3;refine⟨Region.noSelect_spec h1,?_,?_,?_⟩
 ·intro i j t hi hj hne hd e;have:=h2 i (zBR.2 hi);rw[zAD]at this;have:=this j (zBR.2 hj);simp[hne,hd,e]at this
 ·intro i o t k ho ht hd;have:=h3 i (zBR.2 (at_lt ho));simp only[ho,Bool.and_eq_true]at this;have:=this.2;rw[zAD]at this;have:=this t ht;rw[zAD]at this;have:=this k (zBR.2 (aD6 hd));simp only[hd,bne_self_eq_false,Bool.false_or,Bool.and_eq_true]at this;obtain⟨hk,this⟩:=this;rw[Array.any_eq_true']at this;obtain⟨e,he,hb⟩:=this;simp at hb;refine⟨fun hi=>?_,e,he,hb.1,hb.2⟩;rw[hi]at hk;simpa using hk
 ·intro i o e ho he hb;have:=h3 i (zBR.2 (at_lt ho));simp only[ho,Bool.and_eq_true]at this;have:=this.1;rw[Array.all_eq_true']at this;have:=this e he;simpa[hb]using this
def slotsG(ops:Array Oper)(al:Nat->Bool)(sz:Nat):Bool:=(List.range ops.size).all fun i=>al i || match dst ops i with | some t=>decide (t<sz) | none=>false
def useB(md:Region.Mode)(ops:Array Oper)(al:Nat->Bool)(rt:Nat->Nat)(us:Nat->Option Nat):Bool:=
 (List.range ops.size).all fun i=>match ops[i]? with
  | none=>true
  | some o=>(match us i with | none=>true | some b=>al b && rt b == rt i && o.after.any fun e=>Region.binds md e && e.on == b) &&
   (!al i || o.after.all fun e=>!Region.binds md e ||(List.range ops.size).all fun j=>us j != some e.on || j == i)
theorem hub_of{al:Nat->Bool}{rt:Nat->Nat}{us:Nat->Option Nat}(h:useB md ops al rt us=true):∀i b o,us i=some b->ops[i]? =some o->al b=true/\rt b=rt i/\Edg md o b:=by
 intro i b o hu ho;unfold useB at h;rw[zAD]at h;have h1:=h i (zBR.2 (at_lt ho));simp only[ho,hu,Bool.and_eq_true,beq_iff_eq]at h1;obtain⟨⟨⟨h2,h3⟩,h4⟩,_⟩:=h1;rw[Array.any_eq_true']at h4;obtain⟨e,he,hb⟩:=h4;simp at hb;exact⟨h2,h3,e,he,hb.1,hb.2⟩
theorem huse_of{al:Nat->Bool}{rt:Nat->Nat}{us:Nat->Option Nat}(h:useB md ops al rt us=true)(hn:∀j b,us j=some b->j<ops.size):∀i o k j,ops[i]? =some o->al i=true->Edg md o k->us j=some k->j=i:=by
 rintro i o k j ho hal ⟨e,he,hb,rfl⟩ hu;unfold useB at h;rw[zAD]at h;have h1:=h i (zBR.2 (at_lt ho));simp only[ho,hal,Bool.and_eq_true,Bool.not_true,Bool.false_or]at h1;have h2:=h1.2;rw[Array.all_eq_true']at h2;have h3:=h2 e he;rw[hb]at h3;simp only[Bool.not_true,Bool.false_or,zAD]at h3;have h4:=h3 j (zBR.2 (hn j _ hu));rw[hu]at h4;simpa using h4
theorem makes_run{i:Nat}{o:Oper}{act:Act}{X X':World}{v:Value}{K:Act->World->Prop}(ho:ops[i]? =some o)(hg:o.guard=none)(hrun:(execOp act.eval o).run P X= .ok (.value v) X')(h:K (act.put o.dst v) X'):wpOp P ops (onlyK K) i K act X:=by
 have hwant:Region.wanted o (yielded ops act.tmps)=true:=by unfold Region.wanted;rw[hg]
 unfold wpOp;simp only[ho];rw[if_pos hwant]
 left
 unfold Oper.wp;rw[hrun];exact h
def rdv(ops:Array Oper)(af:Act)(k:Nat):Value:=match dst ops k with | some t=>af.eval (.tmp t) | none=>undef
end
end Gro
theorem aQn{P:Program}{id:Nat}{Q:Exit->Act->World->Prop}{a:Act}{W:World}{l:List Oper}(n:Nat)(al:Nat->Bool)(bl:Value->Option Nat)(rt:Nat->Nat)(us:Nat->Option Nat)(Φ:Nat->Value->World->Prop)(af:Act)
 (hm:P.follows .mixedOrders=true) (hsp:aKm l n=true) (hsz:(l.take n).toArray.size=n) (hB:Gro.groB .any (l.take n).toArray al=true) (hS:Gro.slotsG (l.take n).toArray al a.tmps.size=true) (hU:Gro.useB .any (l.take n).toArray al rt us=true)
 (hq:∀X,Below W.heap.size W X->∀ov:Ov X,wpQuiet P (l.take n).toArray (fun w'=>∃u,w'=ov.f u) (fun a'=>a'=af) (Gro.qlist al 0 (l.take n)) a)
 (hst:∀k v X X' row,Φ k v X->X.grownBy X' row->(∀r,bl v=some r->r<X.heap.size/\row≠some r)->Φ k v X')
 (hrt:∀i b k,us i=some b->rt k=rt i->k=i\/k=b)
 (hun:∀j b,us j=some b->j<n)
 (hmk:∀i,i<n->al i=true->∃o,(l.take n).toArray[i]? =some o/\Gro.Makes P bl rt us Φ .any (l.take n).toArray al W (Gro.rdv (l.take n).toArray af) a i o)
 (hK:∀(g:Nat->Value) w,Below W.heap.size W w->(∀k,k<n->al k=true->(∀j,us j≠some k)->Φ k (g k) w)->(∀k,k<n->al k=true->∀r,bl (g k)=some r->W.heap.size<=r/\r<w.heap.size)->(∀k k',k<n->k'<n->al k=true->al k'=true->rt k≠rt k'->∀r,bl (g k)=some r->bl (g k')≠some r)->
  wpList P l.toArray Q (l.drop n) ((List.range n).foldl (fun a' k=>if al k then a'.put (Rg.dst (l.take n).toArray k) (g k)else a') af) w):
 (Code.region id l.toArray true).wp P Q a W:=by
 refine aDw n hm hsp ?_;obtain⟨ops,hops⟩:∃ops,ops=(l.take n).toArray:=⟨_,rfl⟩;have hlen:(l.take n).length=n:=by have:=hsz;simpa using this
 rw[<-hops]at hsz hB hS hU hq hmk hK⊢;have hf:=Gro.fineG_of hB;have hvals:∀X,Below W.heap.size W X->∃vs:Nat->Value,(∀j,j<n->al j=false->∃o,ops[j]? =some o/\YieldsIn P ops (fun Y=>Below X.heap.size X Y) o (vs j) (Rg.cp ops vs a (fun k=>!al k) j))/\Rg.cp ops vs a (fun k=>!al k) n=af:=by
  intro X hX;obtain⟨ov⟩:=ov_ex X;obtain⟨vs,h1,h2⟩:=Gro.q_values (ops:=ops) al (l.take n) 0 a (fun j hj=>by rw[hops];simp) (hq X hX ov);rw[hlen,Gro.fld_cp]at h2;refine⟨vs,fun j hj hal=>?_,h2⟩;obtain⟨o,g1,g2⟩:=h1 j (by omega) (by rwa [zBH]);rw[zBH]at g1 g2;rw[Gro.fld_cp]at g2;have hC:(fun w'=>∃u,w'=ov.f u)=(fun Y=>Below X.heap.size X Y):=by
   funext Y
   exact propext ⟨fun⟨u,hu⟩=>hu ▸ ov.below u,fun h=>⟨Y,(ov.eq Y h).symm⟩⟩
  rw[hC]at g2;exact⟨o,g1,g2⟩
 have hone:∀vs:Nat->Value,Rg.cp ops vs a (fun k=>!al k) n=af->∀j,j<n->al j=false->vs j=Gro.rdv ops af j:=by
  intro vs he j hj hal;have hs:=zAD.1 hS j (zBR.2 (by omega));rw[hal,Bool.false_or]at hs;unfold Gro.rdv;cases hd:Rg.dst ops j with
  | none=>rw[hd]at hs;cases hs
  | some t=>
   rw[hd]at hs;have ht:t<a.tmps.size:=by simpa using hs
   have:=Rg.eval_hit (ops:=ops) vs a (fun k=>!al k) t j hd (by simp[hal]) n hj (fun i hi hij=>hf.apart j i t (by omega) (by omega) (fun e=>hij e.symm) hd);rw[he,if_pos ht]at this;exact this.symm
 obtain⟨vs,h1,h2⟩:=hvals W (Below.refl _ _);have hcpv:∀(vs vs':Nat->Value) (i:Nat),(∀k,k<i->al k=false->vs k=vs' k)->Rg.cp ops vs a (fun k=>!al k) i=Rg.cp ops vs' a (fun k=>!al k) i:=fun vs vs' i h=>Gro.cp_vals a _ _ fun k hk hc=>h k hk (by simpa using hc)
 have haf:Rg.cp ops (Gro.rdv ops af) a (fun k=>!al k) n=af:=by rw[<-h2];rw[h2];rw[<-hcpv vs _ n (fun k hk hal=>hone vs h2 k hk hal)];exact h2
 have h:=Gro.any_gro (P:=P) (md:= .any) (bl:=bl) (rt:=rt) (us:=us) (Φ:=Φ) (al:=al) hf (W:=W) (vs:=Gro.rdv ops af) (a:=a) (K:=fun a w=>wpList P l.toArray Q (l.drop n) a w) (fun i hi hal=>by
  obtain⟨o,ho,_⟩:=h1 i (by omega) hal;refine⟨o,ho,fun X hX=>?_⟩;obtain⟨vs',g1,g2⟩:=hvals X hX;obtain⟨o',ho',hy⟩:=g1 i (by omega) hal;rw[ho]at ho';cases ho';rw[hone vs' g2 i (by omega) hal,hcpv vs' (Gro.rdv ops af) i (fun k hk hak=>hone vs' g2 k (by omega) hak)]at hy;exact hy) hst hrt (Gro.hub_of hU) (Gro.huse_of hU fun j b hj=>by rw[hsz];exact hun j b hj) (fun i o ho hal=>by
  obtain⟨o',ho',hm'⟩:=hmk i (by rw[<-hsz];exact Rg.at_lt ho) hal;rw[ho]at ho';cases ho';exact hm') (fun g w hb hfa hlt hne=>by
  have:=hK g w hb (fun k hk=>hfa k (by omega)) (fun k hk=>hlt k (by omega)) (fun k k' hk hk'=>hne k k' (by omega) (by omega));rw[Gro.cp_vg al _ g a ops.size (zBJ _) hf.apart,hsz,haf];exact this) ops.size (Array.replicate ops.size false) (fun _=>undef) a W.drew (by
  have:∀k,k<=ops.size->Rg.unl (Array.replicate ops.size false) k<=k:=by
   intro k;induction k with
   | zero=>intro _;exact zBJ _
   | succ k ih=>intro hm;have:=ih (by omega);simp only[Rg.unl];split <;> omega
  exact this _ (zBJ _)) (by
  have hz:∀k,(Array.replicate ops.size false).getD k false=false:=fun k=>by simp[Array.getElem?_replicate];split <;> simp
  refine⟨by simp,?_,(Below.refl _ _).drew,fun k _ _ hl=>(by rw[hz]at hl;cases hl),fun k _ _ hl=>(by rw[hz]at hl;cases hl),fun k k' _ _ _ _ hl=>(by rw[hz]at hl;cases hl)⟩;have:∀k,Rg.cp ops (Gro.vg al (Gro.rdv ops af) fun _=>undef) a (fun k=>(Array.replicate ops.size false).getD k false) k=a:=by
   intro k;induction k with
   | zero=>rfl
   | succ k ih=>simp only[Rg.cp,ih];rw[hz];simp
  exact(this _).symm)
 rw[hsz]at h;exact Rg.wpAny_out (fun _ _ h=>h) _ _ _ _ h
end
section
theorem aLw(d:Array Int)(hs:∀i j,i<=j->j<d.size->d[i]!<=d[j]!):∀m,m<=d.size->
 (Lib.compactUpTo d m).Pairwise (· < ·)/\(∀x∈Lib.compactUpTo d m,∃j,j<m/\x=d[j]!)/\∀j,j<m->d[j]!∈Lib.compactUpTo d m
 | 0,_=>⟨by simp[Lib.compactUpTo],fun x hx=>by simp[Lib.compactUpTo]at hx,fun j hj=>by omega⟩
 | m+1,hm=>by
  obtain⟨h1,h2,h3⟩:=aLw d hs m (by omega);rw[Lib.compactUpTo_succ]
  by_cases hk:Lib.keeps d m=true
  ·rw[if_pos hk];refine⟨?_,fun x hx=>?_,fun j hj=>?_⟩
   ·rw[List.pairwise_append];refine⟨h1,by simp,fun x hx y hy=>?_⟩;rw[zBD.1 hy];obtain⟨j,hj,rfl⟩:=h2 x hx;have hle:=hs j (m-1) (by omega) (by omega);have hle2:=hs (m-1) m (by omega) (by omega);have hne:d[m]!≠d[m-1]! :=by
     have:m=0\/d[m]!≠d[m-1]! :=by simpa[Lib.keeps]using hk
     rcases this with h | h
     ·omega
     ·exact h
    omega
   ·rcases zBE.1 hx with hx | hx
    ·obtain⟨j,hj,e⟩:=h2 x hx;exact⟨j,by omega,e⟩
    ·exact⟨m,by omega,zBD.1 hx⟩
   ·rcases Nat.lt_or_ge j m with h | h
    ·exact zAO _ (h3 j h)
    ·obtain rfl:j=m:=by omega
     exact zAP _ (by simp)
  ·rw[if_neg hk,List.append_nil];refine⟨h1,fun x hx=>?_,fun j hj=>?_⟩
   ·obtain⟨j,hj,e⟩:=h2 x hx;exact⟨j,by omega,e⟩
   ·rcases Nat.lt_or_ge j m with h | h
    ·exact h3 j h
    ·obtain rfl:j=m:=by omega
     have:¬(j=0\/d[j]!≠d[j-1]!):=by simpa[Lib.keeps]using hk
     have hj0:j≠0:=fun e=>this (.inl e)
     have he:d[j]! =d[j-1]! :=Decidable.byContradiction fun e=>this (.inr e)
     rw[he];exact h3 (j-1) (by omega)
def srt(xs:List Int):List Int:=xs.mergeSort fun x y=>decide (x<=y)
theorem aJb(xs:List Int):(srt xs).length=xs.length:=by unfold srt;exact List.length_mergeSort _
theorem aVu(xs:List Int)(x:Int):x∈srt xs↔x∈xs:=(List.mergeSort_perm xs _).mem_iff
theorem aSx(xs:List Int):(srt xs).Pairwise (·<=·):=by
 have h:=List.pairwise_mergeSort (le:=fun x y:Int=>decide (x<=y)) (fun a b c h1 h2=>by simp only[zBQ]at *;omega) (fun a b=>by simp only[Bool.or_eq_true,zBQ];omega) xs;exact h.imp fun{a b} h=>by simpa using h
theorem aLx(xs:List Int):(Lib.compact (srt xs)).Pairwise (· < ·)/\∀x,x∈Lib.compact (srt xs)↔x∈xs:=by
 have hp:=aSx xs;rw[List.pairwise_iff_getElem]at hp;have hs:∀i j,i<=j->j<(srt xs).toArray.size->(srt xs).toArray[i]!<=(srt xs).toArray[j]! :=by
  intro i j hij hj;have hj':j<(srt xs).length:=by simpa using hj
  rw[getElem!_pos _ i (by simpa using(by omega:i<(srt xs).length)),getElem!_pos _ j hj];rcases Nat.lt_or_ge i j with h | h
  ·simpa using hp i j (by omega) hj' h
  ·obtain rfl:i=j:=by omega
   exact Int.le_refl _
 obtain⟨h1,h2,h3⟩:=aLw (srt xs).toArray hs (srt xs).length (by simp);refine⟨h1,fun x=>⟨fun hx=>?_,fun hx=>?_⟩⟩
 ·obtain⟨j,hj,rfl⟩:=h2 x hx;rw[getElem!_pos _ j (by simpa using hj)];exact(aVu xs _).1 (by simp)
 ·obtain⟨j,hj,e⟩:=List.mem_iff_getElem.1 ((aVu xs x).2 hx);have:=h3 j hj;rw[getElem!_pos _ j (by simpa using hj)]at this;rw[<-e]
  show(srt xs)[j]∈Lib.compactUpTo (srt xs).toArray (srt xs).length
  simpa using this
end
end Go.Proofs.YtchdbhggbdcapaaGreat
