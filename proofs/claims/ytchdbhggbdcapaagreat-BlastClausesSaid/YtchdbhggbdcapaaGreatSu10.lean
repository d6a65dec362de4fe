/- Part. -/
import Derived.Test.YtchdbhggbdcapaaGreatSuLX
import Derived.Test.YtchdbhggbdcapaaGreatSu09
set_option linter.unusedVariables false
set_option linter.unusedSimpArgs false
set_option maxRecDepth 100000
set_option maxHeartbeats 16000000
section
namespace Go.Proofs.YtchdbhggbdcapaaGreat.S
section
variable {n : Nat} {cs0 done : List (List Int)} {p : Nat} {s : Sol}
theorem Inv.choose(h:Inv n cs0 done s.trl.length s){l:Int}(hl:isLit n l=true)(h0:S.val s.val l=0):
 Inv n cs0 done s.trl.length (Sol.tell {s with lim:=s.lim ++ [s.trl.length]} l (-1)):=by
 have hlen:(s.lim ++ [s.trl.length]).length=s.lim.length+1:=by simp
 have ht:=h.trl.choose hl h0;obtain⟨z1,z2⟩:=(h.trl.zero hl).1 h0;have habs:=aBh hl;refine⟨?_,by simp[Sol.tell,h.rln],h.pln,h.phs,h.cla,?_,h.wat,fun c hc=>(h.ok c hc).tell h.trl h.p1 (h.cla c hc) hl h0 _,by simp[Sol.tell],?_,?_,h.prf,h.lgd,h.big⟩
 ·have e:(Sol.tell {s with lim:=s.lim ++ [s.trl.length]} l (-1)).lvl=s.lvl.set l.natAbs (s.lim.length+1):=by
   show s.lvl.set l.natAbs (s.lim ++ [s.trl.length]).length=_
   rw[hlen]
  rw[e];exact ht
 ·intro i t hi;have hi':(s.trl ++ [l])[i]? =some t:=hi;rcases Nat.lt_or_ge i s.trl.length with hlt | hge
  ·rw[zAE hlt]at hi';have hne:l.natAbs≠t.natAbs:=fun e=>by
    have hm:=zAC hi';rcases(show t=l\/t= -l by omega)with rfl | rfl
    ·exact z1 hm
    ·exact z2 hm
   have er:(s.rsn.set l.natAbs (-1)).getD t.natAbs 0=s.rsn.getD t.natAbs 0:=by rw[aC3,if_neg (fun e=>hne e.1)]
   show((s.rsn.set l.natAbs (-1)).getD t.natAbs 0= -1/\(i∈s.lim ++ [s.trl.length]\/lev (s.lim ++ [s.trl.length]) i=0/\_))\/_
   rw[er];have el:lev (s.lim ++ [s.trl.length]) i=lev s.lim i:=by rw[aMd,if_neg (by omega)];rfl
   rcases h.rsn i t hi' with⟨h1,h2⟩ |⟨k,c,h1,h2,h3,h4,h5⟩
   ·refine .inl ⟨h1,?_⟩;rcases h2 with h2 |⟨h2,h3⟩
    ·exact .inl (zAO _ h2)
    ·exact .inr ⟨by rw[el];exact h2,h3⟩
   ·refine .inr ⟨k,c,by show(s.rsn.set l.natAbs (-1)).getD t.natAbs 0=_;rw[er];exact h1,h2,h3,?_,fun m hm hmt=>?_⟩
    ·show i∉s.lim ++ [s.trl.length]
     rw[zBE,zBD];rintro(h | h)
     ·exact h4 h
     ·omega
    ·show -m∈(s.trl ++ [l]).take i
     rw[aIt (Nat.le_of_lt hlt)];exact h5 m hm hmt
  ·rw[zAF hge]at hi';obtain⟨hj,he⟩:=zAA.1 hi';simp at hj;have hi2:i=s.trl.length:=by omega
   subst hi2;simp at he;subst he;refine .inl ⟨?_, .inl ?_⟩
   ·show(s.rsn.set l.natAbs (-1)).getD l.natAbs 0= -1
    rw[aC3,if_pos ⟨rfl,by have:=h.rln;omega⟩]
   ·show s.trl.length∈s.lim ++ [s.trl.length]
    simp
 ·intro x hx;have hx':x∈s.lim ++ [s.trl.length]:=hx;rw[zBE,zBD]at hx';rcases hx' with hx | rfl
  ·exact Nat.le_of_lt (h.trl.limlt x hx)
  ·exact zBJ _
 ·intro c hc;rcases h.cov c hc with h1 | h1 |⟨i,t,h1,h2,h3⟩
  ·exact .inl h1
  ·exact .inr (.inl h1)
  ·have hlt:=(zAA.1 h1).1;refine .inr (.inr ⟨i,t,?_,?_,h3⟩)
   ·show(s.trl ++ [l])[i]? =some t
    rw[zAE hlt];exact h1
   ·show lev (s.lim ++ [s.trl.length]) i=0
    rw[aMd,if_neg (by omega),h2]
def Sol.back(s:Sol)(L at_:Nat)(rsn' phs':List Int):Sol:=
 {s with val:=unset s.val (s.trl.drop at_),rsn:=rsn',phs:=phs',trl:=s.trl.take at_,lim:=s.lim.take L,nxt:=min s.nxt at_}
theorem Inv.back(h:Inv n cs0 done p s){L at_:Nat}(hL:s.lim[L]? =some at_){rsn' phs':List Int}(hr1:rsn'.length=n+1)(hr2:∀v,v∉(s.trl.drop at_).map Int.natAbs->rsn'.getD v 0=s.rsn.getD v 0)
 (hp1:phs'.length=n+1) (hp2:∀v,v<=n->phs'.getD v 0=1\/phs'.getD v 0= -1):Inv n cs0 done at_ (s.back L at_ rsn' phs'):=by
 have hat:=h.p2 _ (zAC hL);have hlt:at_<s.trl.length:=h.trl.limlt _ (zAC hL);have ht:=h.trl.back hL;have hkeep:∀i t,i<at_->s.trl[i]? =some t->t.natAbs∉(s.trl.drop at_).map Int.natAbs:=by
  intro i t hi he hin;obtain⟨u,hu,hue⟩:=zBU.1 hin;obtain⟨j,hj⟩:=zAG hu;rw[List.getElem?_drop]at hj;have:=h.trl.inj he hj hue.symm;omega
 refine⟨ht,hr1,hp1,hp2,h.cla,?_,h.wat,?_,by show at_<=(s.trl.take at_).length;rw[zAZ];omega,?_,?_,h.prf,h.lgd,h.big⟩
 ·intro i t hi;have hi':(s.trl.take at_)[i]? =some t:=hi;rw[zBB]at hi';split at hi'
  ·rename_i hia
   show(rsn'.getD t.natAbs 0= -1/\(i∈s.lim.take L\/lev (s.lim.take L) i=0/\_))\/_
   rw[hr2 _ (hkeep i t hia hi'),aIr h.trl.lims hL hia];rcases h.rsn i t hi' with⟨h1,h2⟩ |⟨k,c,h1,h2,h3,h4,h5⟩
   ·refine .inl ⟨h1,h2.imp_left fun h2=>?_⟩;rw[<-List.take_append_drop L s.lim,zBE]at h2;exact h2.resolve_right fun h3=>by have:=aVk h.trl.lims hL i h3;omega
   ·refine .inr ⟨k,c,by show rsn'.getD t.natAbs 0=_;rw[hr2 _ (hkeep i t hia hi')];exact h1,h2,h3,fun hin=>h4 (List.mem_of_mem_take hin),fun m hm hmt=>?_⟩
    show -m∈(s.trl.take at_).take i
    rw[List.take_take,Nat.min_eq_left (Nat.le_of_lt hia)];exact h5 m hm hmt
  ·cases hi'
 ·intro c hc a b ha hb;obtain⟨h1,h2⟩:=h.ok c hc a b ha hb;have hcl:=h.cla c hc;have la:=hcl.lit ha;have lb:=hcl.lit hb;have key:∀x y:Int,isLit n x=true->isLit n y=true->-x∈(s.trl.take at_).take at_->(-x∈s.trl.take p->S.val s.val y=1/\s.lvl.getD y.natAbs 0<=s.lvl.getD x.natAbs 0)->S.val (unset s.val (s.trl.drop at_)) y=1/\s.lvl.getD y.natAbs 0<=s.lvl.getD x.natAbs 0:=by
   intro x y lx ly hin hgo;rw[List.take_take,Nat.min_self]at hin;obtain⟨i,hi,ei⟩:=aA3.1 hin;obtain⟨v,lv⟩:=hgo (aA3.2 ⟨i,by omega,ei⟩);refine⟨?_,lv⟩;have e1:=h.trl.levs i _ ei;rw[show(-x).natAbs=x.natAbs from by omega]at e1;have e2:=(aCr h.trl.lims hL).2 hi;have hy:=(h.trl.vals y ly).1 v;obtain⟨j,hj⟩:=zAG hy;have e3:=h.trl.levs j y hj;have e4:=(aCr h.trl.lims hL (i:=j)).1 (by omega);exact(ht.vals y ly).2 (aA3.2 ⟨j,e4,hj⟩)
  exact⟨fun hin=>key a b la lb hin h1,fun hin=>key b a lb la hin h2⟩
 ·intro x hx;exact Nat.le_of_lt (aOl h.trl.lims hL x hx)
 ·intro c hc;rcases h.cov c hc with h1 | h1 |⟨i,t,h1,h2,h3⟩
  ·exact .inl h1
  ·exact .inr (.inl h1)
  ·have hia:i<at_:=aIq.1 h2 _ (zAC hL);refine .inr (.inr ⟨i,t,?_,?_,h3⟩)
   ·show(s.trl.take at_)[i]? =some t
    rw[zBB,if_pos hia];exact h1
   ·show lev (s.lim.take L) i=0
    rw[aIr h.trl.lims hL hia];exact h2
theorem aMe{cs l:List (List Int)}{x:List Int}(h:bad cs l=none)(hx:fol (cs ++ l) x=true):bad cs (l ++ [x])=none:=by
 induction l generalizing cs with
 | nil=>
  rw[List.append_nil]at hx;simp[bad,hx]
 | cons y r ih=>
  rw[bad]at h;split at h
  ·rename_i hy;rw[List.cons_append,bad,if_pos hy,ih (cs:=cs ++ [y])]
   ·rfl
   ·cases hb:bad (cs ++ [y]) r with
    | none=>rfl
    | some k=>rw[hb]at h;cases h
   ·rw[zBT];exact hx
  ·cases h
theorem Inv.zero_der(h:Inv n cs0 done p s):∀i t,s.trl[i]? =some t->lev s.lim i=0->Der (cs0 ++ s.lrn) [] t:=by
 intro i;induction i using Nat.strongRecOn with
 | _ i ih=>
  intro t ht h0;rcases h.rsn i t ht with⟨_,h1 |⟨_,c,hc,htc,hall⟩⟩ |⟨k,c,_,h2,h3,h4,h5⟩
  ·have:=aIq.1 h0 i h1;omega
  ·exact .unit_ hc htc fun m hm hne=>absurd (hall m hm) hne
  ·obtain⟨d,hd,he⟩:=(h.cla c (zAC h2)).orig;refine .unit_ hd ((he t).1 h3) fun m hm hne=>?_
   obtain⟨j,hj,ej⟩:=aA3.1 (h5 m ((he m).2 hm) hne);exact ih j hj _ ej (Nat.le_zero.1 (by rw[<-h0];exact aR6 _ (Nat.le_of_lt hj)))
theorem Inv.lost(h:Inv n cs0 done p s)(hlim:s.lim= []){k:Nat}{c:List Int}(hc:s.cls[k]? =some c)(hf:∀m∈c,S.val s.val m= -1):aBg cs0 (s.lrn ++ [[]])=none:=by
 have hcl:=h.cla c (zAC hc);obtain⟨d,hd,he⟩:=hcl.orig;have hinc:aA2 (cs0 ++ s.lrn) []:=aDj hd fun m hm=>by
  have hm':=(he m).2 hm;obtain⟨i,hi⟩:=zAG ((h.trl.neg (zAD.1 hcl.lits m hm')).1 (hf m hm'));exact h.zero_der i _ hi (by rw[hlim];rfl)
 have hb:bad cs0 (s.lrn ++ [[]])=none:=aMe h.prf (aEi.2 hinc);rw[aBg,hb];simp
theorem Inv.last(h:Inv n cs0 done p s)(hlim:s.lim≠ []){k:Nat}{c:List Int}(hc:s.cls[k]? =some c)(hf:∀m∈c,S.val s.val m= -1):∃m∈c,s.lvl.getD m.natAbs 0=s.lim.length:=by
 have hcl:=h.cla c (zAC hc);have h2:=hcl.two;obtain⟨a,ha⟩:∃a,c[0]? =some a:=⟨_,zAB (by omega)⟩;obtain⟨b,hb⟩:∃b,c[1]? =some b:=⟨_,zAB (by omega)⟩;have hpos:0<s.lim.length:=List.length_pos_iff.2 hlim;obtain⟨at_,hat⟩:∃x,s.lim[s.lim.length-1]? =some x:=⟨_,zAB (by omega)⟩;have hap:=h.p2 _ (zAC hat);have fa:=hf a (zAC ha);have fb:=hf b (zAC hb);have la:=hcl.lit ha;have lb:=hcl.lit hb;obtain⟨i,hi⟩:=zAG ((h.trl.neg la).1 fa);obtain⟨h1,_⟩:=h.ok c (zAC hc) a b ha hb;refine⟨a,zAC ha,?_⟩;have hlv:=h.trl.levs i _ hi;rw[show(-a).natAbs=a.natAbs from by omega]at hlv;have hle:=aHl s.lim i;apply zAI;intro hn;have hia:=(aCr h.trl.lims hat (i:=i)).1 (by omega);have:=(h1 (aA3.2 ⟨i,by omega,hi⟩)).1;omega
theorem Inv.level0(h:Inv n cs0 done p s)(hd:done=cs0)(hcc:∀c∈cs0,isClause n c=true){q:Nat}(hq:q<=p)(h0:∀i,i<s.trl.length->(lev s.lim i=0↔i<q)):
 (∀l,Der cs0 [] l->l∈s.trl.take q)/\¬aA2 cs0 []:=by
 have hmem:∀l,decide (l∈s.trl.take q)=true↔l∈s.trl.take q:=fun l=>decide_eq_true_iff
 have hcon:∀l,decide (l∈s.trl.take q)=true->decide (-l∈s.trl.take q)=false:=by
  intro l hl;rw[hmem]at hl;rw[decide_eq_false_iff_not];exact fun h2=>h.trl.not_both (List.mem_of_mem_take hl) (List.mem_of_mem_take h2)
 have hc:=aL7 (cs:=cs0) (given:= []) hcon (fun l hl=>by cases hl) (fun c hc=>?_)
 ·exact⟨fun l hl=>(hmem l).1 (hc.1 l hl),hc.2⟩
 ·rcases h.cov c (by rw[hd];exact hc)with⟨m,hm,hm'⟩ |⟨d,hd,he⟩ |⟨i,t,h1,h2,h3⟩
  ·by_cases ha:m∈s.trl.take q
   ·exact .inl ⟨m,hm,(hmem m).2 ha⟩
   ·by_cases hb: -m∈s.trl.take q
    ·exact .inl ⟨-m,hm',(hmem _).2 hb⟩
    ·have hne:=aAc (zAD.1 (hcc c hc) m hm);refine .inr ⟨m,hm,-m,hm',by omega,⟨by simpa using ha,by simpa using hb⟩,⟨by simpa using hb,by simpa using ha⟩⟩
  ·have hcl:=h.cla d hd;have h2:=hcl.two;obtain⟨a,ha⟩:∃a,d[0]? =some a:=⟨_,zAB (by omega)⟩;obtain⟨b,hb⟩:∃b,d[1]? =some b:=⟨_,zAB (by omega)⟩;obtain⟨g1,g2⟩:=h.ok d hd a b ha hb;have la:=hcl.lit ha;have lb:=hcl.lit hb;have key:∀x y:Int,isLit n x=true->isLit n y=true->-x∈s.trl.take q->(-x∈s.trl.take p->S.val s.val y=1/\s.lvl.getD y.natAbs 0<=s.lvl.getD x.natAbs 0)->y∈s.trl.take q:=by
    intro x y lx ly hin hgo;obtain⟨i,hi,ei⟩:=aA3.1 hin;obtain⟨v,lv⟩:=hgo (aA3.2 ⟨i,by omega,ei⟩);have e1:=h.trl.levs i _ ei;rw[show(-x).natAbs=x.natAbs from by omega]at e1;have e2:=(h0 i (zAA.1 ei).1).2 hi;obtain⟨j,hj⟩:=zAG ((h.trl.vals y ly).1 v);have e3:=h.trl.levs j y hj;exact aA3.2 ⟨j,(h0 j (zAA.1 hj).1).1 (by omega),hj⟩
   have ia:=(he a).1 (zAC ha);have ib:=(he b).1 (zAC hb)
   by_cases ta:a∈s.trl.take q
   ·exact .inl ⟨a,ia,(hmem a).2 ta⟩
   by_cases tb:b∈s.trl.take q
   ·exact .inl ⟨b,ib,(hmem b).2 tb⟩
   have na: -a∉s.trl.take q:=fun hin=>tb (key a b la lb hin g1)
   have nb: -b∉s.trl.take q:=fun hin=>ta (key b a lb la hin g2)
   refine .inr ⟨a,ia,b,ib,fun e=>?_,⟨by simpa using ta,by simpa using na⟩,⟨by simpa using tb,by simpa using nb⟩⟩;have:=hcl.inj ha hb (by rw[e]);omega
  ·exact .inl ⟨t,h3,(hmem t).2 (aA3.2 ⟨i,(h0 i (zAA.1 h1).1).1 h2,h1⟩)⟩
theorem Inv.large(h:Inv n cs0 done p s)(hd:done=cs0)(hcc:∀c∈cs0,isClause n c=true)(hlim:s.lim≠ []){k:Nat}{c:List Int}(hc:s.cls[k]? =some c)(hf:∀m∈c,S.val s.val m= -1)
 (hbig:s.lrn≠ []->¬aA2 cs0 []/\∃c∈cs0,∀l∈c,¬Der cs0 [] l):¬aA2 cs0 []/\∃c∈cs0,∀l∈c,¬Der cs0 [] l:=by
 by_cases hl:s.lrn= []
 ·have hpos:0<s.lim.length:=List.length_pos_iff.2 hlim;obtain⟨at_,hat⟩:∃x,s.lim[0]? =some x:=⟨_,zAB (by omega)⟩;have hap:=h.p2 _ (zAC hat);obtain⟨h1,h2⟩:=h.level0 hd hcc (q:=at_) hap (fun i _=>by
   rw[<-aCr h.trl.lims hat (i:=i)];omega)
  have hcl:=h.cla c (zAC hc);obtain⟨d,hdm,he⟩:=hcl.orig;rw[hl,List.append_nil]at hdm;refine⟨h2,d,hdm,fun l hl hder=>?_⟩;have hin:=List.mem_of_mem_take (h1 l hder);have hlc:=(he l).2 hl;have:=(h.trl.vals l (zAD.1 hcl.lits l hlc)).2 hin;have:=hf l hlc;omega
 ·exact hbig hl
theorem Inv.won(h:Inv n cs0 done s.trl.length s)(hd:done=cs0)(hcc:∀c∈cs0,isClause n c=true)(hall:∀v,1<=v->v<=n->s.val.getD v 0≠0){model:List Bool}(hm:model.length=n)(hmv:∀v,v<n->model.getD v false=decide (0<s.val.getD (v+1) 0)):
 ∀c∈cs0,sat model c=true:=by
 have hne:∀l,isLit n l=true->S.val s.val l≠0:=by
  intro l hl;have:=aBh hl;have h1:=hall l.natAbs this.1 this.2;unfold S.val;split
  ·rw[show l.toNat=l.natAbs from by omega];exact h1
  ·rw[show(-l).toNat=l.natAbs from by omega];omega
 have htrue:∀l,isLit n l=true->S.val s.val l=1->(model.getD (l.natAbs-1) false == decide (0<l))=true:=by
  intro l hl hv;have:=aBh hl;rw[hmv _ (by omega),show l.natAbs-1+1=l.natAbs from by omega];unfold S.val at hv
  by_cases h0:0<l
  ·rw[if_pos h0,show l.toNat=l.natAbs from by omega]at hv;rw[hv];simp[h0]
  ·rw[if_neg h0,show(-l).toNat=l.natAbs from by omega]at hv;have:s.val.getD l.natAbs 0= -1:=by omega
   rw[this];simp[h0]
 intro c hc;rw[sat,List.any_eq_true];rcases h.cov c (by rw[hd];exact hc)with⟨m,hm,hm'⟩ |⟨d,hd,he⟩ |⟨i,t,h1,h2,h3⟩
 ·have lm:=zAD.1 (hcc c hc) m hm;have h1:=hne m lm;have h2:=h.trl.wf.val m
  by_cases hv:S.val s.val m=1
  ·exact⟨m,hm,htrue m lm hv⟩
  ·refine⟨-m,hm',htrue (-m) (aCf lm) ?_⟩;rw[aDb _ (aAc lm)];omega
 ·have hcl:=h.cla d hd;have h2:=hcl.two;obtain⟨a,ha⟩:∃a,d[0]? =some a:=⟨_,zAB (by omega)⟩;obtain⟨b,hb⟩:∃b,d[1]? =some b:=⟨_,zAB (by omega)⟩;obtain⟨g1,g2⟩:=h.ok d hd a b ha hb;have la:=hcl.lit ha;have lb:=hcl.lit hb
  by_cases hv:S.val s.val a=1
  ·exact⟨a,(he a).1 (zAC ha),htrue a la hv⟩
  ·have h1:=hne a la;have h3:=h.trl.wf.val a;have h4:=g1 (by rw[List.take_length];exact(h.trl.neg la).1 (by omega));exact⟨b,(he b).1 (zAC hb),htrue b lb h4.1⟩
 ·have hin:=zAC h1;have lt:=h.trl.lits t hin;exact⟨t,h3,htrue t lt ((h.trl.vals t lt).2 hin)⟩
structure Lrnd(n:Nat)(cs:List (List Int))(s:Sol)(a:Int)(rest:List Int)(bk:Nat):Prop where
 lit:isClause n (a :: rest)=true
 dist:((a :: rest).map Int.natAbs).Nodup
 told: -a∈s.trl
 lva:s.lvl.getD a.natAbs 0=s.lim.length
 fls:∀m∈rest,S.val s.val m= -1/\s.lvl.getD m.natAbs 0<=bk
 lt:bk<s.lim.length
 emp:rest= []->bk=0
 fst:∀b,rest[0]? =some b->s.lvl.getD b.natAbs 0=bk
 inc:aA2 cs (negs (a :: rest))
def Sol.take1(s:Sol)(a:Int):Sol:=Sol.tell {s with lrn:=s.lrn ++ [[a]]} a (-1)
def Sol.take2(s:Sol)(a b:Int)(rest:List Int):Sol:=
 Sol.tell {s with lrn:=s.lrn ++ [a :: b :: rest],cls:=s.cls ++ [a :: b :: rest],wat:=(s.wat.set (pl a) (s.wat.getD (pl a) []++ [s.cls.length])).set (pl b) ((s.wat.set (pl a) (s.wat.getD (pl a) []++ [s.cls.length])).getD (pl b) []++ [s.cls.length])} a s.cls.length
theorem Rsn.more{cs cs' cls cls':List (List Int)}{rsn trl:List Int}{lim:List Nat}(h:Rsn cs cls rsn trl lim)(hs:∀c∈cs,c∈cs')(hc:∀(k:Nat) (c:List Int),cls[k]? =some c->cls'[k]? =some c):Rsn cs' cls' rsn trl lim:=by
 intro i t hi;rcases h i t hi with⟨h1,h2 |⟨h2,c,hc,h3⟩⟩ |⟨k,c,h1,h2,h3⟩
 ·exact .inl ⟨h1, .inl h2⟩
 ·exact .inl ⟨h1, .inr ⟨h2,c,hs c hc,h3⟩⟩
 ·exact .inr ⟨k,c,h1,hc k c h2,h3⟩
theorem Wat.push{cls:List (List Int)}{wat:List (List Nat)}(h:Wat n cls wat){a b:Int}{rest:List Int}(la:isLit n a=true)(lb:isLit n b=true)(hab:a≠b):
 Wat n (cls ++ [a :: b :: rest]) ((wat.set (pl a) (wat.getD (pl a) []++ [cls.length])).set (pl b) ((wat.set (pl a) (wat.getD (pl a) []++ [cls.length])).getD (pl b) []++ [cls.length])):=by
 have h1:pl a<wat.length:=by rw[h.len];exact pl_lt la
 have h2:pl b<wat.length:=by rw[h.len];exact pl_lt lb
 have hpab:pl a≠pl b:=fun e=>hab (aEt e (aAc la))
 have hget:∀l,isLit n l=true->((wat.set (pl a) (wat.getD (pl a) []++ [cls.length])).set (pl b) ((wat.set (pl a) (wat.getD (pl a) []++ [cls.length])).getD (pl b) []++ [cls.length])).getD (pl l) []=if l=a\/l=b then wat.getD (pl l) []++ [cls.length]else wat.getD (pl l) []:=by
  intro l hl;rw[getD_setL]
  by_cases e:l=b
  ·subst e;rw[if_pos ⟨rfl,by simpa using h2⟩,getD_setL,if_neg (fun x=>hpab x.1),if_pos (.inr rfl)]
  ·rw[if_neg (fun x=>e (aEt x.1 (aAc lb)).symm),getD_setL]
   by_cases e2:l=a
   ·subst e2;rw[if_pos ⟨rfl,h1⟩,if_pos (.inl rfl)]
   ·rw[if_neg (fun x=>e2 (aEt x.1 (aAc la)).symm),if_neg (fun x=>x.elim e2 e)]
 have hno:∀l,isLit n l=true->cls.length∉wat.getD (pl l) []:=by
  intro l hl hin;obtain⟨c,hc,_⟩:=(h.mem l hl _).1 hin;have:=(zAA.1 hc).1;omega
 refine⟨by simp[h.len],fun l hl k=>?_,fun l hl=>?_⟩
 ·rw[hget l hl];have hold:=h.mem l hl k
  by_cases hk:k=cls.length
  ·subst hk;have e:(cls ++ [a :: b :: rest])[cls.length]? =some (a :: b :: rest):=by simp
   rw[e]
   by_cases e2:l=a\/l=b
   ·rw[if_pos e2];exact⟨fun _=>⟨_,rfl,by rcases e2 with rfl | rfl;exact .inl rfl;exact .inr rfl⟩,fun _=>by simp⟩
   ·rw[if_neg e2];constructor
    ·intro hin;exact absurd hin (hno l hl)
    ·rintro⟨c,hc,hw⟩;obtain rfl:=zAH hc;refine absurd (hw.imp (fun h=>?_) fun h=>?_) e2
     ·exact(zAH h).symm
     ·exact(zAH h).symm
  ·have e:(cls ++ [a :: b :: rest])[k]? =cls[k]? :=by
    rcases Nat.lt_or_ge k cls.length with hlt | hge
    ·rw[zAE hlt]
    ·rw[zAF hge,zAN (by simp;omega),zAN (by omega)]
   rw[e,<-hold];split
   ·rw[zBE,zBD];exact⟨fun h=>h.resolve_right hk, .inl⟩
   ·exact Iff.rfl
 ·rw[hget l hl];split
  ·rw[List.nodup_append];exact⟨h.nd l hl,by simp,fun x hx y hy=>by rw[zBD.1 hy];rintro rfl;exact hno l hl hx⟩
  ·exact h.nd l hl
theorem aE1{a b:Int}{rest:List Int}(h:((a :: b :: rest).map Int.natAbs).Nodup):a≠b:=by
 rintro rfl;simp at h
theorem Inv.take(h:Inv n cs0 done s.trl.length s){a:Int}{rest:List Int}(hl:isClause n (a :: rest)=true)(hd:((a :: rest).map Int.natAbs).Nodup)(h0:S.val s.val a=0)(hf:∀m∈rest,S.val s.val m= -1)
 (hinc:aA2 (cs0 ++ s.lrn) (negs (a :: rest))) (hbig:∃c∈cs0,∀l∈c,¬Der cs0 [] l):
 (rest= []->s.lim= []->Inv n cs0 done s.trl.length (s.take1 a))/\
 ∀b r,rest=b :: r->s.lvl.getD b.natAbs 0=s.lim.length->Inv n cs0 done s.trl.length (s.take2 a b r):=by
 have la:isLit n a=true:=zAD.1 hl a (List.mem_cons_self ..);have hfol:bad cs0 (s.lrn ++ [a :: rest])=none:=aMe h.prf (aEi.2 hinc);have hsub:∀c∈cs0 ++ s.lrn,c∈cs0 ++(s.lrn ++ [a :: rest]):=fun c hc=>by rw[<-zBT];exact zAO _ hc
 have hself:a :: rest∈cs0 ++(s.lrn ++ [a :: rest]):=by rw[<-zBT];simp
 have hlgd:∀c∈s.lrn ++ [a :: rest],isClause n c=true:=fun c hc=>by
  rcases zBE.1 hc with hc | hc
  ·exact h.lgd c hc
  ·rw[zBD.1 hc];exact hl
 refine⟨fun hr hlim=>?_,fun b r hr hlv=>?_⟩
 ·subst hr;have h1:Inv n cs0 done s.trl.length {s with lrn:=s.lrn ++ [[a]]}:=
   ⟨h.trl,h.rln,h.pln,h.phs,fun c hc=>(h.cla c hc).more hsub,h.rsn.more hsub (fun _ _ h=>h),h.wat,h.ok,h.p1,h.p2,h.cov,hfol,hlgd,fun _=>hbig⟩
  exact h1.tell la h0 (.inl ⟨rfl,hlim, [a],hself,by simp,fun m hm=>zBD.1 hm⟩)
 ·subst hr;have lb:isLit n b=true:=zAD.1 hl b (by simp);have hab:=aE1 hd;have h1:Inv n cs0 done s.trl.length {s with lrn:=s.lrn ++ [a :: b :: r],cls:=s.cls,wat:=s.wat}:=
   ⟨h.trl,h.rln,h.pln,h.phs,fun c hc=>(h.cla c hc).more hsub,h.rsn.more hsub (fun _ _ h=>h),h.wat,h.ok,h.p1,h.p2,h.cov,hfol,hlgd,fun _=>hbig⟩
  have hcla:Cla n (cs0 ++(s.lrn ++ [a :: b :: r])) (a :: b :: r):=⟨by simp,hd,hl,_,hself,fun m=>Iff.rfl⟩;have h2:=h1.tell (r:=(s.cls.length:Int)) la h0;have hrs:Rsn (cs0 ++(s.lrn ++ [a :: b :: r])) (s.cls ++ [a :: b :: r]) (s.rsn.set a.natAbs (s.cls.length:Int)) (s.trl ++ [a]) s.lim:=by
   refine Rsn.tell (n:=n) (h.rsn.more hsub fun k c hk=>?_) h.trl h.rln la h0 (.inr ⟨s.cls.length,a :: b :: r,rfl,by simp,by simp,fun m hm hne=>?_⟩)
   ·rw[zAE (zAA.1 hk).1];exact hk
   ·have hm':m∈b :: r:=(zBF.1 hm).resolve_left hne;exact(h.trl.neg (zAD.1 hl m hm)).1 (hf m hm')
  have ht:=h.trl.tell la h0;refine⟨ht,by simp[Sol.take2,Sol.tell,h.rln],h.pln,h.phs,fun c hc=>?_,hrs,h.wat.push la lb hab,fun c hc=>?_,by simp[Sol.take2,Sol.tell],fun x hx=>Nat.le_of_lt (h.trl.limlt x hx),?_,hfol,hlgd,fun _=>hbig⟩
  ·rcases zBE.1 hc with hc | hc
   ·exact(h.cla c hc).more hsub
   ·rw[zBD.1 hc];exact hcla
  ·rcases zBE.1 hc with hc | hc
   ·exact(h.ok c hc).tell h.trl (zBJ _) (h.cla c hc) la h0 _
   ·rw[zBD.1 hc];intro x y hx hy;obtain rfl:a=x:=zAH hx;obtain rfl:b=y:=zAH hy
    show(-a∈(s.trl ++ [a]).take s.trl.length->_)/\(-b∈(s.trl ++ [a]).take s.trl.length->_)
    rw[aIt (zBJ _),List.take_length];refine⟨fun hin=>absurd hin ((h.trl.zero la).1 h0).2,fun hin=>⟨?_,?_⟩⟩
    ·show S.val (put s.val a) a=1
     rw[aGu h.trl.wf la la,if_pos rfl]
    ·show(s.lvl.set a.natAbs s.lim.length).getD a.natAbs 0<=(s.lvl.set a.natAbs s.lim.length).getD b.natAbs 0
     have hne:a.natAbs≠b.natAbs:=hcla.inj (i:=0) (j:=1) rfl rfl |> fun f e=>by have:=f e;omega
     have h5:=aBh la;have q1:(s.lvl.set a.natAbs s.lim.length).getD b.natAbs 0=s.lim.length:=by rw[aD5,if_neg (fun x=>hne x.1),hlv]
     have q2:(s.lvl.set a.natAbs s.lim.length).getD a.natAbs 0=s.lim.length:=by rw[aD5,if_pos ⟨rfl,by have:=h.trl.len;omega⟩]
     rw[q1,q2];exact zBJ _
  ·intro c hc;rcases h.cov c hc with h1 |⟨d,hd,he⟩ |⟨i,t,h1,h2,h3⟩
   ·exact .inl h1
   ·exact .inr (.inl ⟨d,zAO _ hd,he⟩)
   ·exact .inr (.inr ⟨i,t,by show(s.trl ++ [a])[i]? =_;rw[zAE (zAA.1 h1).1];exact h1,h2,h3⟩)
theorem Lrnd.back{cs:List (List Int)}{a:Int}{rest:List Int}{bk at_:Nat}(hr:Lrnd n cs s a rest bk)(h:Inv n cs0 done p s)(hL:s.lim[bk]? =some at_)(rsn' phs':List Int):
 S.val (s.back bk at_ rsn' phs').val a=0/\(∀m∈rest,S.val (s.back bk at_ rsn' phs').val m= -1)/\(s.lim.take bk).length=bk/\(s.trl.take at_).length=at_:=by
 have la:isLit n a=true:=zAD.1 hr.lit a (List.mem_cons_self ..);have hb:=h.trl.back hL;have hlt:at_<s.trl.length:=h.trl.limlt _ (zAC hL);refine⟨h.trl.back_gone hL la (by rw[hr.lva];exact hr.lt),fun m hm=>?_,by rw[zAZ];have:=hr.lt;omega,by rw[zAZ];omega⟩;have lm:isLit n m=true:=zAD.1 hr.lit m (zAQ _ hm);obtain⟨v,lv⟩:=hr.fls m hm;exact(hb.neg lm).2 (h.trl.back_val hL lm v lv)
end
end Go.Proofs.YtchdbhggbdcapaaGreat.S
end
section
open Go.Proofs.YtchdbhggbdcapaaGreat (tK tk rd tc gA kH)
namespace Go.Proofs.YtchdbhggbdcapaaGreat.S
def aAs(seen:List Bool)(l:Int):Bool:=seen.getD l.natAbs false
def opens(s:Sol)(seen:List Bool)(at1:Nat):Nat:=(s.trl.take at1).countP fun t=>aAs seen t && decide (s.lvl.getD t.natAbs 0=s.lim.length)
def Prd(s:Sol)(seen:List Bool)(c:List Int)(t:Int):Prop:=∀m∈c,m≠t->s.lvl.getD m.natAbs 0=0\/aAs seen m=true
structure Lng(n:Nat)(s:Sol)(cf:List Int)(seen:List Bool)(rest:List Int)(at1:Nat)(told:Int)(c:List Int):Prop where
 len:seen.length=n+1
 sn:∀v,seen.getD v false=true->∃t∈s.trl,t.natAbs=v/\1<=s.lvl.getD v 0
 rs:∀l,l∈rest↔isLit n l=true/\S.val s.val l= -1/\aAs seen l=true/\s.lvl.getD l.natAbs 0<s.lim.length
 rd:(rest.map Int.natAbs).Nodup
 le:at1<=s.trl.length
 ex:∀i t,at1<=i->s.trl[i]? =some t->t≠told->aAs seen t=true->s.lvl.getD t.natAbs 0=s.lim.length->∃(k:Nat) (d:List Int),s.cls[k]? =some d/\t∈d/\(∀m∈d,m≠t->-m∈s.trl.take i)/\Prd s seen d t
 cl:c∈s.cls
 cv:∀m∈c,m≠told->-m∈s.trl.take at1
 tl:(told=0/\c=cf/\at1=s.trl.length)\/(told≠0/\s.trl[at1]? =some told/\aAs seen told=true/\s.lvl.getD told.natAbs 0=s.lim.length/\told∈c/\Prd s seen cf 0/\0<opens s seen at1)
section
variable {n : Nat} {cs0 done : List (List Int)} {p : Nat} {s : Sol} {cf c : List Int} {seen : List Bool} {rest : List Int} {at1 : Nat} {told : Int}
theorem Lng.start(h:Inv n cs0 done p s)(hc:cf∈s.cls)(hf:∀m∈cf,S.val s.val m= -1):Lng n s cf (List.replicate (n+1) false) [] s.trl.length 0 cf:=by
 have hrep:∀v,(List.replicate (n+1) false).getD v false=false:=by
  intro v;simp only[List.getD,List.getElem?_replicate];split <;> rfl
 refine⟨by simp,fun v hv=>(by rw[hrep]at hv;cases hv),fun l=>?_,by simp,zBJ _,fun i t _ _ _ hs=>?_,hc,fun m hm _=>?_, .inl ⟨rfl,rfl,rfl⟩⟩
 ·constructor
  ·intro h;cases h
  ·rintro⟨_,_,h3,_⟩;rw[aAs,hrep]at h3;cases h3
 ·rw[aAs,hrep]at hs;cases hs
 ·rw[List.take_length];exact(h.trl.neg (zAD.1 (h.cla cf hc).lits m hm)).1 (hf m hm)
theorem aPm(of:List Bool)(i j:Nat)(x:Bool):(of.set i x).getD j false=if i=j/\i<of.length then x else of.getD j false:=getD_setL of i j x false
theorem aR8{n:Nat}{seen:List Bool}(hl:seen.length=n+1){m:Int}(hm:isLit n m=true)(l:Int):aAs (seen.set m.natAbs true) l=true↔l.natAbs=m.natAbs\/aAs seen l=true:=by
 have:=aBh hm;unfold aAs;rw[aPm]
 by_cases e:m.natAbs=l.natAbs
 ·rw[if_pos ⟨e,by omega⟩];simp[e]
 ·rw[if_neg (fun x=>e x.1)];exact⟨.inr,fun h=>h.resolve_left fun x=>e x.symm⟩
theorem Prd.more{seen':List Bool}{d:List Int}{t:Int}(h:Prd s seen d t)(hs:∀l,aAs seen l=true->aAs seen' l=true):Prd s seen' d t:=fun m hm hne=>(h m hm hne).imp_right (hs m)
theorem Lng.see(h:Lng n s cf seen rest at1 told c)(hi:Inv n cs0 done p s){l:Int}(hl:l∈c)(hne:l≠told)(hns:aAs seen l=false)(hlv:s.lvl.getD l.natAbs 0≠0):
 Lng n s cf (seen.set l.natAbs true) (if s.lvl.getD l.natAbs 0=s.lim.length then rest else rest ++ [l]) at1 told c/\
 opens s (seen.set l.natAbs true) at1=opens s seen at1+(if s.lvl.getD l.natAbs 0=s.lim.length then 1 else 0):=by
 have lit:isLit n l=true:=zAD.1 (hi.cla c h.cl).lits l hl;have hin:=h.cv l hl hne;have hin':=List.mem_of_mem_take hin;have hv:S.val s.val l= -1:=(hi.trl.neg lit).2 hin';have hset:=aR8 h.len lit;have hmono:∀m,aAs seen m=true->aAs (seen.set l.natAbs true) m=true:=fun m hm=>(hset m).2 (.inr hm)
 obtain⟨i,hia,hie⟩:=aA3.1 hin;have hlvi:=hi.trl.levs i _ hie;rw[show(-l).natAbs=l.natAbs from by omega]at hlvi;have hle:s.lvl.getD l.natAbs 0<=s.lim.length:=by rw[hlvi];exact aHl _ _
 have hop:opens s (seen.set l.natAbs true) at1=opens s seen at1+(if s.lvl.getD l.natAbs 0=s.lim.length then 1 else 0):=by
  unfold opens;have key:∀(ts:List Int) (P:Int->Bool),(ts.map Int.natAbs).Nodup->-l∈ts->(ts.countP fun t=>aAs (seen.set l.natAbs true) t && P t)=(ts.countP fun t=>aAs seen t && P t)+if P (-l)=true then 1 else 0:=by
   intro ts P;induction ts with
   | nil=>intro _ h;cases h
   | cons t r ih=>
    intro hd hm;rw[List.map_cons,List.nodup_cons]at hd;rw[List.countP_cons,List.countP_cons]
    by_cases e:t= -l
    ·subst e;have hr:(r.countP fun t=>aAs (seen.set l.natAbs true) t && P t)=(r.countP fun t=>aAs seen t && P t):=by
      refine List.countP_congr fun x hx=>?_
      have hx':x.natAbs≠l.natAbs:=fun e=>hd.1 (zBU.2 ⟨x,hx,by omega⟩)
      have:aAs (seen.set l.natAbs true) x=aAs seen x:=by
       rw[Bool.eq_iff_iff,hset x];exact⟨fun h=>h.resolve_left hx', .inr⟩
      rw[this]
     have h1:aAs (seen.set l.natAbs true) (-l)=true:=(hset _).2 (.inl (by omega));have h2:aAs seen (-l)=false:=by
      unfold aAs at hns⊢;rw[show(-l).natAbs=l.natAbs from by omega];exact hns
     rw[hr,h1,h2];simp
    ·have hm':=(zBF.1 hm).resolve_left (fun x=>e x.symm);have hx':t.natAbs≠l.natAbs:=fun e2=>hd.1 (zBU.2 ⟨-l,hm',by omega⟩)
     have:aAs (seen.set l.natAbs true) t=aAs seen t:=by
      rw[Bool.eq_iff_iff,hset t];exact⟨fun h=>h.resolve_left hx', .inr⟩
     rw[this,ih hd.2 hm'];omega
  have hnd:((s.trl.take at1).map Int.natAbs).Nodup:=by rw[List.map_take];exact hi.trl.dist.sublist (List.take_sublist _ _)
  rw[key (s.trl.take at1) (fun t=>decide (s.lvl.getD t.natAbs 0=s.lim.length)) hnd hin];rw[show(-l).natAbs=l.natAbs from by omega];simp only[zBQ]
 refine⟨⟨by simp[h.len],fun v hvs=>?_,fun m=>?_,?_,h.le,fun j t hj ht hne2 hs hlt=>?_,h.cl,h.cv,?_⟩,hop⟩
 ·rw[aPm]at hvs;split at hvs
  ·rename_i e;exact⟨-l,hin',by omega,by rw[<-e.1];omega⟩
  ·exact h.sn v hvs
 ·by_cases e:s.lvl.getD l.natAbs 0=s.lim.length
  ·rw[if_pos e,h.rs m];constructor
   ·rintro⟨a1,a2,a3,a4⟩;exact⟨a1,a2,hmono m a3,a4⟩
   ·rintro⟨a1,a2,a3,a4⟩;refine⟨a1,a2,((hset m).1 a3).resolve_left fun x=>?_,a4⟩;rw[x]at a4;omega
  ·rw[if_neg e,zBE,zBD,h.rs m];constructor
   ·rintro(⟨a1,a2,a3,a4⟩ | rfl)
    ·exact⟨a1,a2,hmono m a3,a4⟩
    ·exact⟨lit,hv,(hset _).2 (.inl rfl),by omega⟩
   ·rintro⟨a1,a2,a3,a4⟩;rcases(hset m).1 a3 with x | x
    ·right
     rcases(show m=l\/m= -l by omega)with rfl | rfl
     ·rfl
     ·rw[aDb _ (aAc lit)]at a2;omega
    ·exact .inl ⟨a1,a2,x,a4⟩
 ·split
  ·exact h.rd
  ·rw[zBS,List.nodup_append];refine⟨h.rd,by simp,fun a ha b hb=>?_⟩;obtain⟨m,hm,rfl⟩:=zBU.1 ha;simp at hb;rw[hb];intro e;have h1:=((h.rs m).1 hm).2.2.1;unfold aAs at h1 hns;rw[e,hns]at h1;cases h1
 ·have hne3:t.natAbs≠l.natAbs:=fun e=>by
   have:=hi.trl.inj ht hie (by omega);omega
  have hs':aAs seen t=true:=((hset t).1 hs).resolve_left hne3;obtain⟨k,d,h1,h2,h3,h4⟩:=h.ex j t hj ht hne2 hs' hlt;exact⟨k,d,h1,h2,h3,h4.more hmono⟩
 ·rcases h.tl with h1 |⟨h1,h2,h3,h4,h5,h6,h7⟩
  ·exact .inl h1
  ·refine .inr ⟨h1,h2,hmono _ h3,h4,h5,h6.more hmono,by rw[hop];omega⟩
theorem aWp(h:at1+1<=s.trl.length){t:Int}(ht:s.trl[at1]? =some t):opens s seen (at1+1)=opens s seen at1+(if aAs seen t=true/\s.lvl.getD t.natAbs 0=s.lim.length then 1 else 0):=by
 unfold opens;rw[List.take_add_one,ht,List.countP_append];simp
theorem aNm:opens s seen 0=0:=by simp[opens]
theorem Lng.looked(h:Lng n s cf seen rest at1 told c)(hi:Inv n cs0 done p s)(hlim:s.lim≠ [])(hcf:cf∈s.cls)(hf:∀m∈cf,S.val s.val m= -1)(hp:Prd s seen c told):Prd s seen cf 0/\0<opens s seen at1:=by
 rcases h.tl with⟨rfl,rfl,h3⟩ |⟨_,_,_,_,_,h6,h7⟩
 ·refine⟨hp,?_⟩;obtain⟨k,hk⟩:=zAG hcf;obtain⟨m,hm,hl⟩:=hi.last hlim hk hf;have lit:=zAD.1 (hi.cla c hcf).lits m hm;have hpos:=List.length_pos_iff.2 hlim;rcases hp m hm (aAc lit)with h0 | hs
  ·omega
  ·unfold opens;rw[List.countP_pos_iff];refine⟨-m,h.cv m hm (aAc lit),?_⟩;unfold aAs at hs⊢;rw[show(-m).natAbs=m.natAbs from by omega,hs,hl];simp
 ·exact⟨h6,h7⟩
theorem aWq(hi:Inv n cs0 done p s)(h:at1+1<=s.trl.length){t:Int}(ht:s.trl[at1]? =some t)(ho:0<opens s seen (at1+1)):s.lvl.getD t.natAbs 0=s.lim.length:=by
 unfold opens at ho;rw[List.countP_pos_iff]at ho;obtain⟨u,hu,hp⟩:=ho;simp only[Bool.and_eq_true,zBQ]at hp;obtain⟨j,hj,ej⟩:=aA3.1 hu;have h1:=hi.trl.levs j u ej;have h2:=hi.trl.levs at1 t ht;have h3:=aR6 s.lim (show j<=at1 by omega);have h4:=aHl s.lim at1;omega
theorem Lng.next(h:Lng n s cf seen rest at1 told c)(hi:Inv n cs0 done p s){at2:Nat}(hle:at2+1<=at1){t:Int}(ht:s.trl[at2]? =some t)(hst:aAs seen t=true)(hnone:∀i u,at2<i->i<at1->s.trl[i]? =some u->aAs seen u=false)(hlv:s.lvl.getD t.natAbs 0=s.lim.length)(hp:Prd s seen c told)(hcf:Prd s seen cf 0)(ho:0<opens s seen at2):
 ∃(k:Nat) (d:List Int),s.rsn.getD t.natAbs 0=k/\s.cls[k]? =some d/\Lng n s cf seen rest at2 t d:=by
 have ho':=ho;unfold opens at ho';rw[List.countP_pos_iff]at ho';obtain⟨u,hu,hpu⟩:=ho';simp only[Bool.and_eq_true,zBQ]at hpu;obtain⟨j,hj,ej⟩:=aA3.1 hu;have h1:=hi.trl.levs j u ej;have h2:=hi.trl.levs at2 t ht;have hlimno:at2∉s.lim:=by
  intro hin;obtain⟨q,hq⟩:=zAG hin;have h3:=(aCr hi.trl.lims hq (i:=j)).2 hj;have h4:=(aCr hi.trl.lims hq (i:=at2));have h5:q<s.lim.length:=(zAA.1 hq).1;omega
 have hpos:1<=lev s.lim at2:=by
  obtain⟨_,_,_,hv⟩:=h.sn t.natAbs hst;omega
 have hne0:t≠0:=aAc (hi.trl.lits t (zAC ht));rcases hi.rsn at2 t ht with⟨_,h3 |⟨h3,_⟩⟩ |⟨k,d,h3,h4,h5,h6,h7⟩
 ·exact absurd h3 hlimno
 ·omega
 ·refine⟨k,d,h3,h4,h.len,h.sn,h.rs,h.rd,by have:=h.le;omega,fun i u hiu hu hne hs hl=>?_,zAC h4,h7, .inr ⟨hne0,ht,hst,hlv,h5,hcf,ho⟩⟩;have hi2:at2≠i:=fun e=>by subst e;rw[ht]at hu;exact hne (zAH hu).symm
  rcases Nat.lt_or_ge i at1 with hia | hia
  ·rw[hnone i u (by omega) hia hu]at hs;cases hs
  ·by_cases et:u=told
   ·subst et;rcases h.tl with⟨h0,_,_⟩ |⟨_,g2,_,_,g5,_,_⟩
    ·have:=aAc (hi.trl.lits _ (zAC hu));omega
    ·have e2:i=at1:=hi.trl.inj hu g2 rfl;subst e2;obtain⟨q,hq⟩:=zAG h.cl;exact⟨q,c,hq,g5,h.cv,hp⟩
   ·exact h.ex i u hia hu et hs hl
theorem Lng.whole(h:Lng n s cf seen rest at1 told c)(hi:Inv n cs0 done p s)(hcfm:cf∈s.cls)(hf:∀m∈cf,S.val s.val m= -1){at2:Nat}(hle:at2+1<=at1){t:Int}(ht:s.trl[at2]? =some t)(hst:aAs seen t=true)(hnone:∀i u,at2<i->i<at1->s.trl[i]? =some u->aAs seen u=false)(hlv:s.lvl.getD t.natAbs 0=s.lim.length)(hp:Prd s seen c told)(hcf:Prd s seen cf 0)(ho:opens s seen at2=0):
 isClause n (-t :: rest)=true/\((-t :: rest).map Int.natAbs).Nodup/\(∀m∈rest,S.val s.val m= -1/\s.lvl.getD m.natAbs 0<s.lim.length/\1<=s.lvl.getD m.natAbs 0)/\aA2 (cs0 ++ s.lrn) (negs (-t :: rest)):=by
 have lt:=hi.trl.lits t (zAC ht);have hrest:∀m∈rest,S.val s.val m= -1/\s.lvl.getD m.natAbs 0<s.lim.length/\1<=s.lvl.getD m.natAbs 0:=by
  intro m hm;obtain⟨_,a2,a3,a4⟩:=(h.rs m).1 hm;obtain⟨_,_,_,hv⟩:=h.sn m.natAbs a3;exact⟨a2,a4,hv⟩
 have hder:∀i u,s.trl[i]? =some u->(lev s.lim i=0\/aAs seen u=true)->Der (cs0 ++ s.lrn) (negs (-t :: rest)) u:=by
  intro i;induction i using Nat.strongRecOn with
  | _ i ih=>
   intro u hu hs;rcases hs with h0 | hs
   ·exact(hi.zero_der i u hu h0).mono (fun _ h=>h) (fun l hl=>by cases hl)
   have lu:=hi.trl.lits u (zAC hu);have vu:=(hi.trl.vals u lu).2 (zAC hu);have hlvu:=hi.trl.levs i u hu
   by_cases hlast:s.lvl.getD u.natAbs 0=s.lim.length
   ·rcases Nat.lt_trichotomy i at2 with hia | rfl | hia
    ·exfalso
     have:0<opens s seen at2:=by
      unfold opens;rw[List.countP_pos_iff];exact⟨u,aA3.2 ⟨i,hia,hu⟩,by rw[hs,hlast];simp⟩
     omega
    ·rw[ht]at hu;obtain rfl:=zAH hu;exact .given_ (by simp[negs])
    ·have hex:∃(k:Nat) (d:List Int),s.cls[k]? =some d/\u∈d/\(∀m∈d,m≠u->-m∈s.trl.take i)/\Prd s seen d u:=by
      rcases Nat.lt_or_ge i at1 with hi1 | hi1
      ·rw[hnone i u hia hi1 hu]at hs;cases hs
      ·by_cases et:u=told
       ·subst et;rcases h.tl with⟨h0,_,_⟩ |⟨_,g2,_,_,g5,_,_⟩
        ·exact absurd h0 (aAc lu)
        ·have e2:i=at1:=hi.trl.inj hu g2 rfl;subst e2;obtain⟨q,hq⟩:=zAG h.cl;exact⟨q,c,hq,g5,h.cv,hp⟩
       ·exact h.ex i u hi1 hu et hs hlast
     obtain⟨k,d,h1,h2,h3,h4⟩:=hex;obtain⟨e,he,hee⟩:=(hi.cla d (zAC h1)).orig;refine .unit_ he ((hee u).1 h2) fun m hm hne=>?_
     have hmd:=(hee m).2 hm;obtain⟨j,hj,ej⟩:=aA3.1 (h3 m hmd hne);refine ih j hj _ ej ?_;have hlj:=hi.trl.levs j _ ej;rw[show(-m).natAbs=m.natAbs from by omega]at hlj;rcases h4 m hmd hne with h0 | hs
     ·exact .inl (by omega)
     ·refine .inr ?_;unfold aAs at hs⊢;rw[show(-m).natAbs=m.natAbs from by omega];exact hs
   ·have hle2:=aHl s.lim i;have hmem: -u∈rest:=by
     refine(h.rs (-u)).2 ⟨aCf lu,by rw[aDb _ (aAc lu)];omega,?_,?_⟩
     ·unfold aAs at hs⊢;rw[show(-u).natAbs=u.natAbs from by omega];exact hs
     ·rw[show(-u).natAbs=u.natAbs from by omega];omega
    exact .given_ (by
     rw[negs,zBU];exact⟨-u,zAQ _ hmem,by omega⟩)
 refine⟨?_,?_,hrest,?_⟩
 ·rw[isClause,zAD];intro m hm;rcases zBF.1 hm with rfl | hm
  ·exact aCf lt
  ·exact((h.rs m).1 hm).1
 ·rw[List.map_cons,List.nodup_cons];refine⟨fun hin=>?_,h.rd⟩;obtain⟨m,hm,he⟩:=zBU.1 hin;have:=(hrest m hm).2.1;rw[show m.natAbs=t.natAbs from by omega]at this;omega
 ·obtain⟨d,hd,he⟩:=(hi.cla cf hcfm).orig;refine aDj hd fun m hm=>?_
  have hmc:=(he m).2 hm;have lm:=zAD.1 (hi.cla cf hcfm).lits m hmc;obtain⟨j,hj⟩:=zAG ((hi.trl.neg lm).1 (hf m hmc));have hlj:=hi.trl.levs j _ hj;rw[show(-m).natAbs=m.natAbs from by omega]at hlj;refine hder j _ hj ?_;rcases hcf m hmc (aAc lm)with h0 | hs
  ·exact .inl (by omega)
  ·refine .inr ?_;unfold aAs at hs⊢;rw[show(-m).natAbs=m.natAbs from by omega];exact hs
structure Fro(s:Sol)(rest r:List Int)(i bk:Nat):Prop where
 perm:r.Perm rest
 le:∀j m,j<i->r[j]? =some m->s.lvl.getD m.natAbs 0<=bk
 zero:i=0->bk=0
 fst:∀b,0<i->r[0]? =some b->s.lvl.getD b.natAbs 0=bk
 lt:bk<s.lim.length
 ile:i<=r.length
theorem Fro.start(hlim:s.lim≠ [])(rest:List Int):Fro s rest rest 0 0:=⟨List.Perm.refl _,fun j m hj=>by omega,fun _=>rfl,fun b hb=>(by omega),List.length_pos_iff.2 hlim,zBL _⟩
theorem Fro.swap{r:List Int}{i bk:Nat}(h:Fro s rest r i bk){a l:Int}(h0:r[0]? =some a)(hl:r[i]? =some l)(hb:bk<s.lvl.getD l.natAbs 0)(hlt:s.lvl.getD l.natAbs 0<s.lim.length):
 Fro s rest ((r.set 0 l).set i a) (i+1) (s.lvl.getD l.natAbs 0):=by
 have hs:=aIe h0 hl;refine⟨(aKi h0 hl).trans h.perm,fun j m hj hm=>?_,fun e=>(by omega),fun b _ hb0=>?_,hlt,by have:=(zAA.1 hl).1;simp;omega⟩
 ·rw[hs j]at hm
  by_cases e:j=i
  ·rw[if_pos e]at hm;obtain rfl:=zAH hm;rcases Nat.eq_zero_or_pos i with hz | hz
   ·subst hz;rw[h0]at hl;obtain rfl:=zAH hl;exact zBJ _
   ·have:=h.le 0 a hz h0;omega
  ·rw[if_neg e]at hm
   by_cases e2:j=0
   ·rw[if_pos e2]at hm;obtain rfl:=zAH hm;exact zBJ _
   ·rw[if_neg e2]at hm;have:=h.le j m (by omega) hm;omega
 ·rw[hs 0]at hb0
  by_cases e:0=i
  ·rw[if_pos e]at hb0;obtain rfl:=zAH hb0;subst e;rw[h0]at hl;obtain rfl:=zAH hl;rfl
  ·rw[if_neg e,if_pos rfl]at hb0;obtain rfl:=zAH hb0;rfl
theorem Fro.keep{r:List Int}{i bk:Nat}(h:Fro s rest r i bk){l:Int}(hl:r[i]? =some l)(hb:s.lvl.getD l.natAbs 0<=bk)(hpos:1<=s.lvl.getD l.natAbs 0):Fro s rest r (i+1) bk:=by
 have hi:0<i:=by
  apply Nat.pos_of_ne_zero;intro e;have:=h.zero e;omega
 refine⟨h.perm,fun j m hj hm=>?_,fun e=>(by omega),fun b _ hb0=>h.fst b hi hb0,h.lt,(zAA.1 hl).1⟩
 by_cases e:j=i
 ·subst e;rw[hl]at hm;obtain rfl:=zAH hm;exact hb
 ·exact h.le j m (by omega) hm
theorem Fro.fin{r:List Int}{i bk:Nat}(h:Fro s rest r i bk)(hi:r.length<=i){t:Int}{at2:Nat}(ht:s.trl[at2]? =some t)(hlv:s.lvl.getD t.natAbs 0=s.lim.length){cs:List (List Int)}
 (hd:isClause n (-t :: rest)=true/\((-t :: rest).map Int.natAbs).Nodup/\(∀m∈rest,S.val s.val m= -1/\s.lvl.getD m.natAbs 0<s.lim.length/\1<=s.lvl.getD m.natAbs 0)/\aA2 cs (negs (-t :: rest))):Lrnd n cs s (-t) r bk:=by
 obtain⟨d1,d2,d3,d4⟩:=hd;have hmem:∀m,m∈-t :: r↔m∈-t :: rest:=fun m=>by rw[zBF,zBF,h.perm.mem_iff]
 refine⟨?_,((h.perm.cons _).map _).nodup_iff.2 d2,by rw[Int.neg_neg];exact zAC ht,by rw[show(-t).natAbs=t.natAbs from by omega];exact hlv,fun m hm=>?_,h.lt,fun e=>?_,fun b hb=>?_,?_⟩
 ·rw[isClause,zAD];exact fun m hm=>zAD.1 d1 m ((hmem m).1 hm)
 ·obtain⟨j,hj⟩:=zAG hm;exact⟨(d3 m (h.perm.mem_iff.1 hm)).1,h.le j m (by have:=(zAA.1 hj).1;omega) hj⟩
 ·subst e;exact h.zero (by have:=h.ile;simpa using this)
 ·have hlt:=(zAA.1 hb).1;exact h.fst b (by omega) hb
 ·refine d4.mono (fun _ h=>h) fun l hl=>?_
  rw[negs,zBU]at hl⊢;obtain⟨m,hm,he⟩:=hl;exact⟨m,(hmem m).2 hm,he⟩
end
end Go.Proofs.YtchdbhggbdcapaaGreat.S
end
section
namespace Go.Proofs.YtchdbhggbdcapaaGreat.C
open S
def Ib(x:Int):Prop:= -4000<=x/\x<=4000
def Wb(w:List Int):Prop:=∀l∈w,Ib l
theorem Ib.neg{x:Int}(h:Ib x):Ib (-x):=by unfold Ib at *;omega
theorem ib1:Ib 1:=by unfold Ib;omega
theorem ibm1:Ib (-1):=by unfold Ib;omega
theorem Ib.min_{x y:Int}(h:Ib x)(k:Ib y):Ib (min x y):=by unfold Ib at *;omega
theorem Ib.max_{x y:Int}(h:Ib x)(k:Ib y):Ib (max x y):=by unfold Ib at *;omega
structure Bo(b:Bd):Prop where
 n:b.n<=4000
 c:b.cls.length<=23999
 k:∀p∈b.known,1<=p.2/\p.2<=4000
 nd:(b.known.map Prod.fst).Nodup
 s:∀c∈b.cls,c.length<=3
theorem aMf{f:E->Bool}{b:Bd}(h:Bo b):Bo (fresh f b).2/\1<=(fresh f b).1/\(fresh f b).1<=4000:=by
 unfold fresh;split
 ·exact⟨⟨h.n,h.c,h.k,h.nd,h.s⟩,Int.le_refl _,(by decide:(1:Int)<=4000)⟩
 ·rename_i hn;exact⟨⟨by show b.n+1<=4000;omega,h.c,h.k,h.nd,h.s⟩,by show(1:Int)<=(b.n:Int)+1;omega,by show(b.n:Int)+1<=4000;omega⟩
theorem aYy{l:List Int}{b:Bd}(h:Bo b)(hl:l.length<=3):Bo (clause l b):=by
 unfold clause;split
 ·exact⟨h.n,h.c,h.k,h.nd,h.s⟩
 ·rename_i hn;exact⟨h.n,by show(b.cls ++ [l]).length<=23999;simp;omega,h.k,h.nd,fun c hc=>(zBE.1 hc).elim (h.s c) fun hc=>by rw[zBD.1 hc];exact hl⟩
theorem aWr{ls:List (List Int)}{b:Bd}(h:Bo b)(hl:∀l∈ls,l.length<=3):Bo (clauses ls b):=by
 induction ls generalizing b with
 | nil=>exact h
 | cons l ls ih=>exact ih (aYy h (hl l (List.mem_cons_self ..))) fun m hm=>hl m (zAQ _ hm)
theorem bBi{l:List (Gate×Int)}{q:Gate}{o:Int}:(put l q o).map Prod.fst=if(look l q).isSome then l.map Prod.fst else l.map Prod.fst ++ [q]:=by
 unfold put;split
 ·rw[List.map_map];apply List.map_congr_left;intro p hp;simp only[Function.comp];split
  ·rename_i e;exact(eq_of_beq e).symm
  ·rfl
 ·simp
theorem aKj{l:List (Gate×Int)}{q:Gate}:look l q=none↔∀p∈l,p.1≠q:=by
 unfold look;rw[Option.map_eq_none_iff,List.find?_eq_none];constructor
 ·intro h p hp e;exact h p hp (by simp[e])
 ·intro h p hp e;exact h p hp (eq_of_beq e)
theorem aR9{l:List (Gate×Int)}{q:Gate}{o:Int}(h:look l q=some o):(q,o)∈l:=by
 unfold look at h;rw[Option.map_eq_some_iff]at h;obtain⟨p,hp,e⟩:=h;have h1:=List.find?_some hp;have h2:=List.mem_of_find?_eq_some hp;have:p.1=q:=eq_of_beq h1;subst this e;exact h2
theorem aYz{l:List (Gate×Int)}{q:Gate}{o:Int}(hk:∀p∈l,1<=p.2/\p.2<=4000)(hn:(l.map Prod.fst).Nodup)(ho:1<=o/\o<=4000):(∀p∈put l q o,1<=p.2/\p.2<=4000)/\((put l q o).map Prod.fst).Nodup:=by
 constructor
 ·intro p hp;unfold put at hp;split at hp
  ·obtain⟨p',hp',rfl⟩:=zBU.1 hp;split
   ·exact ho
   ·exact hk p' hp'
  ·rcases zBE.1 hp with h | h
   ·exact hk p h
   ·rw[zBD.1 h];exact ho
 ·rw[bBi];split
  ·exact hn
  ·rename_i h;rw[List.nodup_append];refine⟨hn,by simp,fun a ha b hb=>?_⟩;rw[zBD.1 hb];rintro rfl;obtain⟨p,hp,e⟩:=zBU.1 ha;have:=aKj.1 (by simpa using h) p hp;exact this e
theorem aOm{q:Gate}{cl:Int->List (List Int)}{f:E->Bool}{b:Bd}(h:Bo b)(hcl:∀o,∀c∈cl o,c.length<=3):Bo (made q cl f b).2/\1<=(made q cl f b).1/\(made q cl f b).1<=4000:=by
 unfold made;split
 ·refine⟨h,Int.le_max_right _ _,?_⟩
  show max ((look b.known q).getD 0) 1<=4000
  cases e:look b.known q with
  | none=>decide
  | some o=>
   have:=h.k _ (aR9 e);simp only[Option.getD_some];simp only at this;omega
 ·obtain⟨f1,f2,f3⟩:=aMf (f:=f) h;have hc:=aWr (ls:=cl (fresh f b).1) f1 (hcl _);obtain⟨p1,p2⟩:=aYz (q:=q) hc.k hc.nd ⟨f2,f3⟩;exact⟨⟨hc.n,hc.c,p1,p2,hc.s⟩,f2,f3⟩
theorem aMg(x y o:Int):∀c∈andCl x y o,c.length<=3:=fun c hc=>by
 simp only[andCl,zBF,List.not_mem_nil,or_false]at hc;rcases hc with rfl | rfl | rfl <;> simp
theorem aHm(x y o:Int):∀c∈xorCl x y o,c.length<=3:=fun c hc=>by
 simp only[xorCl,zBF,List.not_mem_nil,or_false]at hc;rcases hc with rfl | rfl | rfl | rfl <;> simp
theorem aLb{q:Gate}{cl:Int->List (List Int)}{f:E->Bool}{b:Bd}(h:Bo b)(hcl:∀o,∀c∈cl o,c.length<=3):Ib (made q cl f b).1:=by
 obtain⟨_,h1,h2⟩:=aOm (q:=q) (cl:=cl) (f:=f) h hcl;unfold Ib;omega
theorem aDc{x y:Int}{b:Bd}(h:Bo b)(hx:Ib x)(hy:Ib y):Bo (and x y b).2/\Ib (and x y b).1:=by
 unfold and;split
 ·exact⟨h,ibm1⟩
 ·split
  ·exact⟨h,hy⟩
  ·split
   ·exact⟨h,hx⟩
   ·exact⟨(aOm h (aMg _ _)).1,aLb h (aMg _ _)⟩
theorem or_bo{x y:Int}{b:Bd}(h:Bo b)(hx:Ib x)(hy:Ib y):Bo (or x y b).2/\Ib (or x y b).1:=by
 obtain⟨h1,h2⟩:=aDc h hx.neg hy.neg;exact⟨h1,h2.neg⟩
theorem aFt{x y:Int}{b:Bd}(h:Bo b)(hx:Ib x)(hy:Ib y):Bo (xor x y b).2/\Ib (xor x y b).1:=by
 unfold xor;split
 ·exact⟨h,hy⟩
 split
 ·exact⟨h,hx⟩
 split
 ·exact⟨h,hy.neg⟩
 split
 ·exact⟨h,hx.neg⟩
 split
 ·exact⟨h,ibm1⟩
 split
 ·exact⟨h,ib1⟩
 ·refine⟨(aOm h (aHm _ _)).1,?_⟩
  show Ib (if _ then _ else _)
  split
  ·exact(aLb h (aHm _ _)).neg
  ·exact aLb h (aHm _ _)
theorem bDs{c x y:Int}{b:Bd}(h:Bo b)(hc:Ib c)(hx:Ib x)(hy:Ib y):Bo (pick c x y b).2/\Ib (pick c x y b).1:=by
 unfold pick;split
 ·exact⟨h,hx⟩
 split
 ·exact⟨h,hy⟩
 ·obtain⟨h1,h2⟩:=aDc h hc hx;obtain⟨h3,h4⟩:=aDc h1 hc.neg hy;exact or_bo h3 h2 h4
end Go.Proofs.YtchdbhggbdcapaaGreat.C
end
section
namespace Go.Proofs.YtchdbhggbdcapaaGreat.S
def Sol.new(n:Nat):Sol:=⟨[], [],List.replicate (2*n+2) [],List.replicate (n+1) 0,List.replicate (n+1) 0,List.replicate (n+1) (-1), [], [],0,List.replicate (n+1) (-1)⟩
theorem aE7{α:Type}(n i:Nat)(x d:α):(List.replicate n x).getD i d=if i<n then x else d:=by
 rw[List.getD,List.getElem?_replicate];split <;> rfl
theorem Inv.init(n:Nat)(cs0:List (List Int)):Inv n cs0 [] 0 (Sol.new n):=by
 have hval:∀l:Int,S.val (List.replicate (n+1) 0) l=0:=fun l=>by
  unfold S.val;split
  ·rw[aE7];split <;> rfl
  ·rw[aE7];split <;> rfl
 refine⟨⟨?_,by simp[Sol.new],fun t ht=>(by cases ht),by simp[Sol.new],fun l hl=>?_,by simp[Sol.new],fun x hx=>(by cases hx),fun i t ht=>(by simp[Sol.new]at ht)⟩,by simp[Sol.new],by simp[Sol.new],fun v hv=> .inr ?_,fun c hc=>(by cases hc),fun i t ht=>(by simp[Sol.new]at ht),⟨by simp[Sol.new],fun l hl k=>?_,fun l hl=>?_⟩,fun c hc=>(by cases hc),zBJ _,fun x hx=>(by cases hx),fun c hc=>(by cases hc),rfl,fun c hc=>(by cases hc),fun h=>absurd rfl h⟩
 ·refine⟨by simp[Sol.new],fun v=>?_⟩;have h0:(List.replicate (n+1) (0:Int)).getD v 0=0:=by rw[aE7];split <;> rfl
  exact .inr (.inl h0)
 ·show S.val (List.replicate (n+1) 0) l=1↔l∈ []
  rw[hval];simp
 ·show(List.replicate (n+1) (-1:Int)).getD v 0= -1
  rw[aE7,if_pos (by omega)]
 ·show k∈(List.replicate (2*n+2) ([]:List Nat)).getD (pl l) []↔_
  rw[aE7];constructor
  ·intro h;split at h <;> cases h
  ·rintro⟨c,hc,_⟩;simp[Sol.new]at hc
 ·show((List.replicate (2*n+2) ([]:List Nat)).getD (pl l) []).Nodup
  rw[aE7];split <;> simp
section
variable {n : Nat} {cs0 done : List (List Int)} {p : Nat} {s : Sol} {k own : List Int}
theorem Inv.more(h:Inv n cs0 done p s)(hk:Taut k\/(∃d∈s.cls,Eqv d k)\/∃i t,s.trl[i]? =some t/\lev s.lim i=0/\t∈k):Inv n cs0 (done ++ [k]) p s:=
 ⟨h.trl,h.rln,h.pln,h.phs,h.cla,h.rsn,h.wat,h.ok,h.p1,h.p2,fun c hc=>by
  rcases zBE.1 hc with hc | hc
  ·exact h.cov c hc
  ·rw[zBD.1 hc];exact hk,h.prf,h.lgd,h.big⟩
theorem aNn(h:aA2 cs0 []):aBg cs0 [[]]=none:=by
 have hb:bad cs0 ([]++ [[]])=none:=aMe rfl (by rw[List.append_nil];exact aEi.2 h);rw[List.nil_append]at hb;rw[aBg,hb];simp
theorem bBj(hk:k∈cs0)(he:Eqv [] k):aBg cs0 [[]]=none:=aNn (aDj hk fun m hm=>by cases (he m).2 hm)
theorem Inv.add_false(h:Inv n cs0 done p s)(hlrn:s.lrn= [])(hlim:s.lim= [])(hk:k∈cs0){l:Int}(hl:isLit n l=true)(he:Eqv [l] k)(hv:S.val s.val l= -1):aBg cs0 [[]]=none:=by
 refine aNn (aDj hk fun m hm=>?_);have hml:m=l:=zBD.1 ((he m).2 hm);subst hml;obtain⟨i,hi⟩:=zAG ((h.trl.neg hl).1 hv);have:=h.zero_der i _ hi (by rw[hlim];rfl);rw[hlrn,List.append_nil]at this;exact this
theorem Inv.add_true(h:Inv n cs0 done p s)(hlim:s.lim= []){l:Int}(hl:isLit n l=true)(he:Eqv [l] k)(hv:S.val s.val l=1):Inv n cs0 (done ++ [k]) p s:=by
 obtain⟨i,hi⟩:=zAG ((h.trl.vals l hl).1 hv);exact h.more (.inr (.inr ⟨i,l,hi,by rw[hlim];rfl,(he l).1 (by simp)⟩))
theorem Inv.add_tell(h:Inv n cs0 done p s)(hlrn:s.lrn= [])(hlim:s.lim= [])(hk:k∈cs0){l:Int}(hl:isLit n l=true)(he:Eqv [l] k)(hv:S.val s.val l=0):Inv n cs0 (done ++ [k]) p (s.tell l (-1)):=by
 have h1:=h.tell (r:= -1) hl hv (.inl ⟨rfl,hlim,k,zAO _ hk,(he l).1 (by simp),fun m hm=>zBD.1 ((he m).2 hm)⟩);refine h1.more (.inr (.inr ⟨s.trl.length,l,?_,?_,(he l).1 (by simp)⟩))
 ·show(s.trl ++ [l])[s.trl.length]? =some l
  simp
 ·show lev s.lim _=0
  rw[hlim];rfl
theorem Inv.add_cls(h:Inv n cs0 done 0 s)(hk:k∈cs0){a b:Int}{r:List Int}(hl:isClause n (a :: b :: r)=true)(hd:((a :: b :: r).map Int.natAbs).Nodup)(he:Eqv (a :: b :: r) k):
 Inv n cs0 (done ++ [k]) 0 {s with cls:=s.cls ++ [a :: b :: r],wat:=(s.wat.set (pl a) (s.wat.getD (pl a) []++ [s.cls.length])).set (pl b) ((s.wat.set (pl a) (s.wat.getD (pl a) []++ [s.cls.length])).getD (pl b) []++ [s.cls.length])}:=by
 have la:isLit n a=true:=zAD.1 hl a (by simp);have lb:isLit n b=true:=zAD.1 hl b (by simp);have hcla:Cla n (cs0 ++ s.lrn) (a :: b :: r):=⟨by simp,hd,hl,k,zAO _ hk,he⟩;refine⟨h.trl,h.rln,h.pln,h.phs,fun c hc=>?_,fun i t hi=>?_,h.wat.push la lb (aE1 hd),fun c hc=>?_,h.p1,h.p2,fun c hc=>?_,h.prf,h.lgd,h.big⟩
 ·rcases zBE.1 hc with hc | hc
  ·exact h.cla c hc
  ·rw[zBD.1 hc];exact hcla
 ·rcases h.rsn i t hi with h1 |⟨j,c,h1,h2,h3⟩
  ·exact .inl h1
  ·exact .inr ⟨j,c,h1,by show(s.cls ++ _)[j]? =_;rw[zAE (zAA.1 h2).1];exact h2,h3⟩
 ·rcases zBE.1 hc with hc | hc
  ·exact h.ok c hc
  ·intro x y _ _;rw[List.take_zero];exact⟨fun h=>(by cases h),fun h=>(by cases h)⟩
 ·rcases zBE.1 hc with hc | hc
  ·rcases h.cov c hc with h1 |⟨d,hd,he⟩ | h1
   ·exact .inl h1
   ·exact .inr (.inl ⟨d,zAO _ hd,he⟩)
   ·exact .inr (.inr h1)
  ·rw[zBD.1 hc];exact .inr (.inl ⟨_,zAP _ (zBD.2 rfl),he⟩)
end
end Go.Proofs.YtchdbhggbdcapaaGreat.S
end
section
namespace Go.Proofs.YtchdbhggbdcapaaGreat.S
section
variable {n : Nat} {cs0 done : List (List Int)} {p : Nat} {s : Sol} {c : List Int}
theorem Inv.all_der(h:Inv n cs0 done p s){G:List Int}(hG:∀(x:Nat),x∈s.lim->∀t:Int,s.trl[x]? =some t->t∈G):∀(i:Nat) (t:Int),s.trl[i]? =some t->Der (cs0 ++ s.lrn) G t:=by
 intro i;induction i using Nat.strongRecOn with
 | _ i ih=>
  intro t ht;rcases h.rsn i t ht with⟨_,h1 |⟨_,c,hc,htc,hall⟩⟩ |⟨k,c,_,h2,h3,h4,h5⟩
  ·exact .given_ (hG i h1 t ht)
  ·exact .unit_ hc htc fun m hm hne=>absurd (hall m hm) hne
  ·obtain⟨d,hd,he⟩:=(h.cla c (zAC h2)).orig;refine .unit_ hd ((he t).1 h3) fun m hm hne=>?_
   obtain⟨j,hj,ej⟩:=aA3.1 (h5 m ((he m).2 hm) hne);exact ih j hj _ ej
theorem Inv.conf(h:Inv n cs0 done p s){G:List Int}(hG:∀(x:Nat),x∈s.lim->∀t:Int,s.trl[x]? =some t->t∈G)(hc:c∈s.cls)(hf:∀m∈c,S.val s.val m= -1):aA2 (cs0 ++ s.lrn) G:=by
 have hcl:=h.cla c hc;obtain⟨d,hd,he⟩:=hcl.orig;refine aDj hd fun m hm=>?_
 have hm':=(he m).2 hm;obtain⟨i,hi⟩:=zAG ((h.trl.neg (zAD.1 hcl.lits m hm')).1 (hf m hm'));exact h.all_der hG i _ hi
def Sol.decs(s:Sol):List Int:=(s.lim.map fun x=> -(s.trl.getD x 0)).reverse
theorem bDt{lim:List Nat}(hs:lim.Pairwise (· < ·)){j x:Nat}(hj:lim[j]? =some x):lev lim x=j+1:=by
 have hjl:=(zAA.1 hj).1;have h1:¬lev lim x<=j:=fun e=>by have:=(aCr hs hj).1 e;omega
 have h2:lev lim x<=j+1:=by
  by_cases e:j+1<lim.length
  ·obtain⟨y,hy⟩:∃y,lim[j+1]? =some y:=⟨_,zAB e⟩;refine(aCr hs hy).2 ?_;have hp:=List.pairwise_iff_getElem.1 hs j (j+1) hjl e (by omega);rw[(zAA.1 hj).2,(zAA.1 hy).2]at hp;exact hp
  ·have:=aHl lim x;omega
 omega
theorem Inv.decs(h:Inv n cs0 done p s)(hlim:s.lim≠ [])(hc:c∈s.cls)(hf:∀m∈c,S.val s.val m= -1):
 ∃a rest,s.decs=a :: rest/\Lrnd n (cs0 ++ s.lrn) s a rest (s.lim.length-1):=by
 have hpos:0<s.lim.length:=List.length_pos_iff.2 hlim;obtain⟨L,hL⟩:∃L,s.lim.length=L+1:=⟨s.lim.length-1,by omega⟩;have hlen:s.decs.length=L+1:=by simp[Sol.decs,hL]
 have hat:∀i,i<=L->∃x,s.lim[L-i]? =some x/\∃t,s.trl[x]? =some t/\s.decs[i]? =some (-t)/\s.lvl.getD t.natAbs 0=L-i+1:=by
  intro i hi;obtain⟨x,hx⟩:∃x,s.lim[L-i]? =some x:=⟨_,zAB (by omega)⟩;have hxl:=h.trl.limlt x (zAC hx);obtain⟨t,ht⟩:∃t,s.trl[x]? =some t:=⟨_,zAB hxl⟩;refine⟨x,hx,t,ht,?_,?_⟩
  ·unfold Sol.decs;rw[List.getElem?_reverse (by simp;omega),zAY,zAW,show s.lim.length-1-i=L-i from by omega,hx];simp[List.getD,ht]
  ·rw[h.trl.levs x t ht];exact bDt h.trl.lims hx
 have hmem:∀m∈s.decs,∃i,i<=L/\s.decs[i]? =some m:=fun m hm=>by
  obtain⟨i,hi⟩:=zAG hm;exact⟨i,by have:=(zAA.1 hi).1;omega,hi⟩
 obtain⟨a,rest,hd⟩:∃a rest,s.decs=a :: rest:=by
  cases e:s.decs with
  | nil=>rw[e]at hlen;simp at hlen
  | cons a rest=>exact⟨a,rest,rfl⟩
 refine⟨a,rest,hd,?_⟩;have hlit:∀m∈s.decs,∃x t,x∈s.lim/\s.trl[x]? =some t/\m= -t/\isLit n t=true:=fun m hm=>by
  obtain⟨i,hi,e⟩:=hmem m hm;obtain⟨x,hx,t,ht,e2,_⟩:=hat i hi;rw[e]at e2;exact⟨x,t,zAC hx,ht,zAH e2,h.trl.lits t (zAC ht)⟩
 have ha0:s.decs[0]? =some a:=by rw[hd];rfl
 obtain⟨x0,hx0,t0,ht0,e0,l0⟩:=hat 0 (zBL _);rw[ha0]at e0;obtain rfl:=zAH e0;refine⟨?_,?_,by rw[Int.neg_neg];exact zAC ht0,by rw[show(-t0).natAbs=t0.natAbs from by omega,l0];omega,fun m hm=>?_,by omega,fun e=>?_,fun b hb=>?_,?_⟩
 ·rw[<-hd,isClause,zAD];intro m hm;obtain⟨x,t,_,_,rfl,ht⟩:=hlit m hm;exact aCf ht
 ·rw[<-hd,List.Nodup,List.pairwise_map,List.pairwise_iff_getElem];intro i j hi hj hij e;obtain⟨x,hx,t,ht,e1,k1⟩:=hat i (by omega);obtain⟨y,hy,u,hu,e2,k2⟩:=hat j (by omega);rw[zAB hi]at e1;rw[zAB hj]at e2;rw[zAH e1,zAH e2,show(-t).natAbs=t.natAbs from by omega,show(-u).natAbs=u.natAbs from by omega]at e;rw[e,k2]at k1;omega
 ·have hm2:m∈s.decs:=by rw[hd];exact zAQ _ hm
  obtain⟨x,t,hx,ht,rfl,lt⟩:=hlit m hm2;refine⟨(h.trl.neg (aCf lt)).2 (by rw[Int.neg_neg];exact zAC ht),?_⟩;obtain⟨i,hi⟩:=zAG hm;have hi2:s.decs[i+1]? =some (-t):=by rw[hd];exact hi
  obtain⟨y,hy,u,hu,e2,k2⟩:=hat (i+1) (by have:=(zAA.1 hi2).1;omega);rw[hi2]at e2;have:=zAH e2;rw[this,show(-u).natAbs=u.natAbs from by omega,k2];have hib:=(zAA.1 hi2).1;omega
 ·subst e;rw[hd]at hlen;simp at hlen;omega
 ·have hb2:s.decs[1]? =some b:=by rw[hd];exact hb
  obtain⟨y,hy,u,hu,e2,k2⟩:=hat 1 (by have:=(zAA.1 hb2).1;omega);rw[hb2]at e2;rw[zAH e2,show(-u).natAbs=u.natAbs from by omega,k2];have:=(zAA.1 hb2).1;omega
 ·refine h.conf (fun x hx t ht=>?_) hc hf;rw[<-hd,negs,zBU];refine⟨-t,?_,Int.neg_neg t⟩;unfold Sol.decs;rw[List.mem_reverse,zBU];exact⟨x,hx,by simp[List.getD,ht]⟩
end
end Go.Proofs.YtchdbhggbdcapaaGreat.S
end
