/- Part. -/
import Derived.Test.YtchdbhggbdcapaaGreatSuLX
import Derived.Test.YtchdbhggbdcapaaGreatSu01
set_option linter.unusedVariables false
set_option linter.unusedSimpArgs false
set_option maxRecDepth 100000
set_option maxHeartbeats 16000000
namespace Go.Proofs.YtchdbhggbdcapaaGreat
open _root_.Go.Proofs.Tryz
section
namespace T
def Ord(t:List Nd):Prop:=∀(k:Nat) (x:Nd),t[k]? =some x->∀a∈x.args,0<=a/\a<(k:Int)
end T
namespace R
open T (Nd)
def need1(p:List Nd)(o:List Bool)(k:Nat):List Bool:=(p.getD k default).args.foldl (fun o a=>o.set a.toNat (o.getD a.toNat false || o.getD k false)) o
def need(p:List Nd):List Bool:=(List.range p.length).reverse.foldl (need1 p) ((List.replicate p.length false).set (p.length-1) true)
end R
namespace R
open T (Nd)
inductive From(p:List Nd)(la:List Int):Nat->Prop where
 | here {a:Int} (h:a∈la):From p la a.toNat
 | next {k:Nat} {x:Nd} {a:Int} (h:From p la k) (hx:p[k]? =some x) (ha:a∈x.args):From p la a.toNat
theorem aU0{o:List Bool}{a i:Nat}{b:Bool}(ha:a<o.length):(o.set a (o.getD a false || b)).getD i false=(o.getD i false ||(decide (i=a) && b)):=by
 simp only[zAT,List.getElem?_set]
 by_cases h:a=i
 ·subst h;simp[ha]
 ·have:¬i=a:=fun e=>h e.symm
  simp[h,this]
theorem aV9(k:Nat):∀(l:List Int) (o:List Bool),k<o.length->(∀a∈l,0<=a/\a<(k:Int))->
 (l.foldl (fun o a=>o.set a.toNat (o.getD a.toNat false || o.getD k false)) o).length=o.length/\
 ∀i,(l.foldl (fun o a=>o.set a.toNat (o.getD a.toNat false || o.getD k false)) o).getD i false=(o.getD i false ||((l.any fun a=>decide (a.toNat=i)) && o.getD k false)):=by
 intro l;induction l with
 | nil=>intro o _ _;simp
 | cons a l ih=>
  intro o hk hl;have ha:=hl a (by simp);have hak:a.toNat<o.length:=by omega
  obtain⟨h1,h2⟩:=ih (o.set a.toNat (o.getD a.toNat false || o.getD k false)) (by simpa using hk) (fun b hb=>hl b (by simp[hb]));refine⟨by simp only[List.foldl_cons];rw[h1];simp,fun i=>?_⟩;simp only[List.foldl_cons];rw[h2 i,aU0 hak,aU0 hak];have hne:decide (k=a.toNat)=false:=by simp;omega
  rw[hne];simp only[Bool.false_and,Bool.or_false,List.any_cons];have:decide (a.toNat=i)=decide (i=a.toNat):=by simp[eq_comm]
  rw[this];cases o.getD i false <;> cases decide (i=a.toNat) <;> cases o.getD k false <;> simp
structure NeedI(p:List Nd)(m:Nat)(o:List Bool):Prop where
 len:o.length=p.length
 sound:∀i,o.getD i false=true->From p [((p.length:Int)-1)] i
 root:o.getD (p.length-1) false=true
 shut:∀k x,m<=k->p[k]? =some x->o.getD k false=true->∀a∈x.args,o.getD a.toNat false=true
theorem aYe{p:List Nd}(ho:T.Ord p){m:Nat}{o:List Bool}(hm:m<p.length)(h:NeedI p (m+1) o):NeedI p m (need1 p o m):=by
 obtain⟨h1,h2,h3,h4⟩:=h;have hx:=zAB hm;have e:p.getD m default=p[m]:=by rw[zAT,hx];rfl
 obtain⟨g1,g2⟩:=aV9 m (p[m]).args o (by omega) (ho m _ hx);unfold need1;rw[e];refine⟨by rw[g1];exact h1,?_,by rw[g2,h3];rfl,?_⟩
 ·intro i hi;rw[g2]at hi;rcases Bool.or_eq_true_iff.1 hi with hi | hi
  ·exact h2 i hi
  ·obtain⟨hi1,hi2⟩:=Bool.and_eq_true_iff.1 hi;obtain⟨a,ha,hai⟩:=List.any_eq_true.1 hi1;have:a.toNat=i:=by simpa using hai
   rw[<-this];exact .next (h2 m hi2) hx ha
 ·intro k x hk hkx hko a ha;have hax:=ho k x hkx a ha;rw[g2]at hko;rw[g2];have hkn:(p[m].args.any fun a=>decide (a.toNat=k))=false:=by
   rw[List.any_eq_false];intro b hb;have:=ho m _ hx b hb;simp;omega
  rw[hkn]at hko;simp only[Bool.false_and,Bool.or_false]at hko;rcases Nat.eq_or_lt_of_le hk with e | e
  ·subst e;rw[hx]at hkx;cases hkx;have:(p[m].args.any fun b=>decide (b.toNat=a.toNat))=true:=List.any_eq_true.2 ⟨a,ha,by simp⟩;rw[this,hko];simp
  ·rw[h4 k x e hkx hko a ha];rfl
theorem aYf{p:List Nd}(ho:T.Ord p)(hp:0<p.length):NeedI p 0 (need p):=by
 have start:NeedI p p.length ((List.replicate p.length false).set (p.length-1) true):=by
  have hg:∀i,((List.replicate p.length false).set (p.length-1) true).getD i false=decide (i=p.length-1):=by
   intro i;simp only[zAT,List.getElem?_set]
   by_cases e:p.length-1=i
   ·subst e;have:p.length-1<p.length:=by omega
    simp[this]
   ·have:¬i=p.length-1:=fun h=>e h.symm
    simp[e,this,List.getElem?_replicate];split <;> rfl
  refine⟨by simp,?_,by rw[hg];simp,?_⟩
  ·intro i hi;rw[hg]at hi;have:i=p.length-1:=by simpa using hi
   have e:((p.length:Int)-1).toNat=i:=by omega
   rw[<-e];exact .here (by simp)
  ·intro k x hk hkx;have:=(zAA.1 hkx).1;omega
 have go:∀(m:Nat),m<=p.length->∀o,NeedI p m o->NeedI p 0 ((List.range m).reverse.foldl (need1 p) o):=by
  intro m;induction m with
  | zero=>intro _ o h;simpa using h
  | succ m ih=>
   intro hm o h;rw[List.range_succ,List.reverse_append];simp only[List.reverse_cons,List.reverse_nil,List.nil_append,List.singleton_append,List.foldl_cons];exact ih (by omega) _ (aYe ho (by omega) h)
 exact go _ (zBJ _) _ start
theorem aQ7{p:List Nd}(ho:T.Ord p)(hp:0<p.length){k:Nat}:(need p).getD k false=true↔From p [((p.length:Int)-1)] k:=by
 have h:=aYf ho hp;refine⟨h.sound k,fun r=>?_⟩;induction r with
 | here ha=>
  simp at ha;subst ha;have e:((p.length:Int)-1).toNat=p.length-1:=by omega
  rw[e];exact h.root
 | next _ hx ha ih=>exact h.shut _ _ (zBL _) hx ih _ ha
end R
end
end Go.Proofs.YtchdbhggbdcapaaGreat
section
namespace Go.Proofs.YtchdbhggbdcapaaGreat.C
open S
abbrev E:=Nat->Bool
abbrev Gate:=Int×Int×Int
def look(l:List (Gate×Int))(q:Gate):Option Int:=(l.find? fun p=>p.1 == q).map Prod.snd
structure Bd where
 n:Nat
 cls:List (List Int)
 known:List (Gate×Int)
 full:Bool
 g:List (E->Bool)
def lsem(b:Bd)(l:Int)(e:E):Bool:=if 0<l then(b.g.getD (l.toNat-1) fun _=>false) e else !(b.g.getD ((-l).toNat-1) fun _=>false) e
def fresh(f:E->Bool)(b:Bd):Int×Bd:=if 4000<=b.n then(1,{b with full:=true})else((b.n:Int)+1,{b with n:=b.n+1,g:=b.g ++ [f]})
def clause(l:List Int)(b:Bd):Bd:=if 23999<=b.cls.length then{b with full:=true}else{b with cls:=b.cls ++ [l]}
def clauses(ls:List (List Int))(b:Bd):Bd:=ls.foldl (fun b l=>clause l b) b
def put(l:List (Gate×Int))(q:Gate)(o:Int):List (Gate×Int):=if(look l q).isSome then l.map (fun p=>if p.1 == q then(q,o)else p)else l ++ [(q,o)]
def made(q:Gate)(cl:Int->List (List Int))(f:E->Bool)(b:Bd):Int×Bd:=
 if(look b.known q).isSome\/b.full then(max ((look b.known q).getD 0) 1,b)
 else((fresh f b).1,{clauses (cl (fresh f b).1) (fresh f b).2 with known:=put (clauses (cl (fresh f b).1) (fresh f b).2).known q (fresh f b).1})
def andCl(x y out:Int):List (List Int):= [[-out,x], [-out,y], [out,-x,-y]]
def xorCl(x y out:Int):List (List Int):= [[-out,x,y], [-out,-x,-y], [out,-x,y], [out,x,-y]]
def and(x y:Int)(b:Bd):Int×Bd:=
 if x= -1\/y= -1\/x= -y then(-1,b)else if x=1\/x=y then(y,b)else if y=1 then(x,b)
 else made (0,min x y,max x y) (andCl (min x y) (max x y)) (fun e=>lsem b (min x y) e && lsem b (max x y) e) b
def or(x y:Int)(b:Bd):Int×Bd:=(-(and (-x) (-y) b).1,(and (-x) (-y) b).2)
def xg(x y:Int)(b:Bd):Int×Bd:=made (1,min (max x (-x)) (max y (-y)),max (max x (-x)) (max y (-y))) (xorCl (min (max x (-x)) (max y (-y))) (max (max x (-x)) (max y (-y))))
 (fun e=>xor (lsem b (min (max x (-x)) (max y (-y))) e) (lsem b (max (max x (-x)) (max y (-y))) e)) b
def xor(x y:Int)(b:Bd):Int×Bd:=
 if x= -1 then(y,b)else if y= -1 then(x,b)else if x=1 then(-y,b)else if y=1 then(-x,b)else if x=y then(-1,b)else if x= -y then(1,b)
 else(if(decide (x<0)) !=(decide (y<0))then -(xg x y b).1 else(xg x y b).1,(xg x y b).2)
def pick(c x y:Int)(b:Bd):Int×Bd:=
 if c=1\/x=y then(x,b)else if c= -1 then(y,b)
 else or (and c x b).1 (and (-c) y (and c x b).2).1 (and (-c) y (and c x b).2).2
def given(K:Nat)(e:E):List Int:=(List.range K).map fun i=>if e (i+2)=true then((i+2:Nat):Int)else -((i+2:Nat):Int)
structure Ok(K:Nat)(b:Bd):Prop where
 gl:b.g.length=b.n
 n1:1<=b.n
 nk:K+1<=b.n
 nm:b.n<=4000
 one:∀e,lsem b 1 e=true
 lits:∀c∈b.cls,isClause b.n c=true
 sat:∀e,∀c∈b.cls,∃l∈c,lsem b l e=true
 der:∀e l,isLit b.n l=true->lsem b l e=true->Der b.cls (given K e) l
 inp:∀v:Nat,2<=v->v<=K+1->∀e,lsem b v e=e v
 kn:∀q o,look b.known q=some o->isLit b.n o=true/\1<o/\isLit b.n q.2.1=true/\isLit b.n q.2.2=true/\
  (q.1=0->∀e,lsem b o e=(lsem b q.2.1 e && lsem b q.2.2 e))/\(q.1=1->∀e,lsem b o e=Bool.xor (lsem b q.2.1 e) (lsem b q.2.2 e))
 full:b.full=false
 cm:b.cls.length<=23999
structure Le(b b':Bd):Prop where
 n:b.n<=b'.n
 sem:∀l,isLit b.n l=true->∀e,lsem b' l e=lsem b l e
theorem Le.refl(b:Bd):Le b b:=⟨zBJ _,fun _ _ _=>rfl⟩
theorem aAr{n m:Nat}{l:Int}(h:isLit n l=true)(hm:n<=m):isLit m l=true:=by
 simp only[isLit,zBQ]at h⊢;omega
theorem Le.trans{a b c:Bd}(h:Le a b)(k:Le b c):Le a c:=⟨zBK h.n k.n,fun l hl e=>(k.sem l (aAr hl h.n) e).trans (h.sem l hl e)⟩
theorem aAm{n:Nat}{l:Int}(h:isLit n l=true):isLit n (-l)=true:=aCf h
theorem aAn(b:Bd){l:Int}(h:l≠0)(e:E):lsem b (-l) e= !lsem b l e:=by
 unfold lsem
 by_cases h0:0<l
 ·rw[if_neg (by omega),if_pos h0,Int.neg_neg]
 ·rw[if_pos (by omega),if_neg h0,Bool.not_not]
theorem Ok.no{K:Nat}{b:Bd}(h:Ok K b)(e:E):lsem b (-1) e=false:=by
 rw[aAn b (by decide),h.one];rfl
theorem Ok.lit1{K:Nat}{b:Bd}(h:Ok K b):isLit b.n 1=true:=by
 have:=h.n1;simp only[isLit,zBQ];omega
def Sp(K:Nat)(b:Bd)(r:Int×Bd)(f:E->Bool):Prop:=
 r.2.full=false->Ok K r.2/\Le b r.2/\isLit r.2.n r.1=true/\∀e,lsem r.2 r.1 e=f e
theorem Sp.same{K:Nat}{b:Bd}{l:Int}{f:E->Bool}(hb:Ok K b)(h:isLit b.n l=true)(hf:∀e,lsem b l e=f e):Sp K b (l,b) f:=
 fun _=>⟨hb,Le.refl _,h,hf⟩
theorem Sp.congr{K:Nat}{b:Bd}{r:Int×Bd}{f f':E->Bool}(h:Sp K b r f)(hf:∀e,f e=f' e):Sp K b r f':=
 fun hfull=>by obtain⟨h1,h2,h3,h4⟩:=h hfull;exact⟨h1,h2,h3,fun e=>(h4 e).trans (hf e)⟩
theorem aH1{l:List Int}{b:Bd}(h:(clause l b).full=false):b.full=false/\clause l b={b with cls:=b.cls ++ [l]}/\b.cls.length<23999:=by
 unfold clause at h⊢;split at h
 ·cases h
 ·rename_i hn;exact⟨h,by rw[if_neg hn],by omega⟩
theorem aQ8{ls:List (List Int)}{b:Bd}(h:(clauses ls b).full=false):b.full=false/\clauses ls b={b with cls:=b.cls ++ ls}/\(b.cls.length<=23999->(b.cls ++ ls).length<=23999):=by
 unfold clauses at h⊢;induction ls generalizing b with
 | nil=>exact⟨h,by simp,by simp⟩
 | cons l r ih=>
  rw[List.foldl_cons]at h⊢;obtain⟨h1,h2,h3⟩:=ih h;obtain⟨g1,g2,g3⟩:=aH1 h1;refine⟨g1,?_,fun hb=>?_⟩
  ·rw[h2,g2];simp
  ·have:=h3 (by rw[g2];simp;omega);rw[g2]at this;simpa using this
theorem aM4{f:E->Bool}{b:Bd}(h:(fresh f b).2.full=false):b.full=false/\b.n<4000/\fresh f b=((b.n:Int)+1,{b with n:=b.n+1,g:=b.g ++ [f]}):=by
 unfold fresh at h⊢;split at h
 ·cases h
 ·rename_i hn;exact⟨h,by omega,by rw[if_neg hn]⟩
theorem aQ9{b b':Bd}{f:E->Bool}(hg:b'.g=b.g ++ [f])(hl:b.g.length=b.n){l:Int}(h:isLit b.n l=true)(e:E):lsem b' l e=lsem b l e:=by
 have h': -(b.n:Int)<=l/\l<=b.n/\l≠0:=by simpa[isLit]using h
 unfold lsem;rw[hg]
 by_cases h0:0<l
 ·rw[if_pos h0,if_pos h0];simp only[List.getD];rw[zAE (by omega)]
 ·rw[if_neg h0,if_neg h0];simp only[List.getD];rw[zAE (by omega)]
theorem aRa{b b':Bd}{f:E->Bool}(hg:b'.g=b.g ++ [f])(hl:b.g.length=b.n)(e:E):lsem b' ((b.n:Int)+1) e=f e:=by
 unfold lsem;rw[if_pos (by omega),hg];simp only[List.getD];rw[show((b.n:Int)+1).toNat-1=b.g.length from by omega];simp
theorem bA1(l:List (Gate×Int))(q:Gate)(o:Int)(q':Gate):look (put l q o) q'=if q'=q then some o else look l q':=by
 unfold put;split
 ·rename_i hs;unfold look at hs⊢;rw[List.find?_map]
  by_cases e:q'=q
  ·subst e;rw[if_pos rfl];have hf:((fun p:Gate×Int=>p.1 == q')∘fun p=>if p.1 == q' then(q',o)else p)=fun p=>p.1 == q':=by
    funext p
    simp only[Function.comp]
    by_cases h:p.1=q'
    ·simp[h]
    ·simp[h]
   rw[hf];cases hx:l.find? fun p=>p.1 == q' with
   | none=>rw[hx]at hs;cases hs
   | some p=>
    have:=List.find?_some hx;simp at this;simp[this]
  ·rw[if_neg e];have hf:((fun p:Gate×Int=>p.1 == q')∘fun p=>if p.1 == q then(q,o)else p)=fun p=>p.1 == q':=by
    funext p
    simp only[Function.comp]
    by_cases h:p.1=q
    ·simp[h]
    ·simp[h]
   rw[hf];cases hx:l.find? fun p=>p.1 == q' with
   | none=>rfl
   | some p=>
    have:=List.find?_some hx;simp at this;simp[this,e]
 ·rename_i hs;have hn:look l q=none:=by
   cases hx:look l q with
   | none=>rfl
   | some _=>rw[hx]at hs;simp at hs
  unfold look at hn⊢;rw[List.find?_append]
  by_cases e:q'=q
  ·subst e;rw[if_pos rfl];have:l.find? (fun p=>p.1 == q')=none:=by
    cases hx:l.find? fun p=>p.1 == q' with
    | none=>rfl
    | some _=>rw[hx]at hn;cases hn
   rw[this];simp
  ·rw[if_neg e];have:¬q=q':=fun h=>e h.symm
   cases hx:l.find? fun p=>p.1 == q' with
   | none=>simp[this]
   | some _=>simp
structure GateOk(b:Bd)(cl:List (List Int))(o:Int)(f:E->Bool):Prop where
 lit:∀c∈cl,isClause (b.n+1:Nat) c=true
 sat:∀(e:E) (s:Int->Bool),(∀l,isLit b.n l=true->s l=lsem b l e)->(∀l,l≠0->s (-l)= !s l)->s o=f e->∀c∈cl,∃l∈c,s l=true
 der:∀(e:E) (cs:List (List Int)) (gs:List Int),(∀c∈cl,c∈cs)->(∀l,isLit b.n l=true->lsem b l e=true->Der cs gs l)->(f e=true->Der cs gs o)/\(f e=false->Der cs gs (-o))
theorem aRb{b:Bd}{q:Gate}{cl:Int->List (List Int)}{f:E->Bool}(hf:(clauses (cl (fresh f b).1) (fresh f b).2).full=false):b.full=false/\b.n<4000/\fresh f b=((b.n:Int)+1,{b with n:=b.n+1,g:=b.g ++ [f]})/\
 clauses (cl (fresh f b).1) (fresh f b).2={b with n:=b.n+1,g:=b.g ++ [f],cls:=b.cls ++ cl ((b.n:Int)+1)}/\(b.cls.length<=23999->(b.cls ++ cl ((b.n:Int)+1)).length<=23999):=by
 obtain⟨h1,h2,h3⟩:=aQ8 hf;obtain⟨g1,g2,g3⟩:=aM4 h1;refine⟨g1,g2,g3,?_,?_⟩
 ·rw[h2,g3]
 ·rw[g3]at h3;exact h3
theorem aPe{b:Bd}{q:Gate}{cl:Int->List (List Int)}{f:E->Bool}(h:(made q cl f b).2.full=false):b.full=false:=by
 unfold made at h;split at h
 ·exact h
 ·exact(aRb (q:=q) h).1
theorem aU1{K:Nat}{b:Bd}{q:Gate}{cl:Int->List (List Int)}{f:E->Bool}(hb:Ok K b)(hcl:∀o,o=(b.n:Int)+1->GateOk b (cl o) o f)
 (hq:isLit b.n q.2.1=true/\isLit b.n q.2.2=true/\((q.1=0/\∀e,f e=(lsem b q.2.1 e && lsem b q.2.2 e))\/(q.1=1/\∀e,f e=Bool.xor (lsem b q.2.1 e) (lsem b q.2.2 e)))):Sp K b (made q cl f b) f:=by
 unfold made
 by_cases hk:(look b.known q).isSome\/b.full=true
 ·rw[if_pos hk];intro hf;have hs:(look b.known q).isSome:=hk.resolve_right (by rw[hb.full];simp);obtain⟨o,ho⟩:=Option.isSome_iff_exists.1 hs;obtain⟨h1,h2,_,_,h3,h4⟩:=hb.kn q o ho;have hm:max ((look b.known q).getD 0) 1=o:=by rw[ho,Option.getD_some];omega
  show Ok K b/\Le b b/\isLit b.n (max ((look b.known q).getD 0) 1)=true/\_
  refine⟨hb,Le.refl _,by rw[hm];exact h1,fun e=>?_⟩
  show lsem b (max ((look b.known q).getD 0) 1) e=f e
  rw[hm];rcases hq.2.2 with⟨h,hh⟩ |⟨h,hh⟩
  ·rw[h3 h,hh]
  ·rw[h4 h,hh]
 ·rw[if_neg hk];intro hf;obtain⟨k1,k2,k3,k4,k5⟩:=aRb (q:=q) hf;have hcl':=hcl _ rfl;obtain⟨q1,q2,q3⟩:=hq;rw[k4,k3];have hg:({b with n:=b.n+1,g:=b.g ++ [f],cls:=b.cls ++ cl ((b.n:Int)+1),known:=put b.known q ((b.n:Int)+1)}:Bd).g=b.g ++ [f]:=rfl;have hle:Le b {b with n:=b.n+1,g:=b.g ++ [f],cls:=b.cls ++ cl ((b.n:Int)+1),known:=put b.known q ((b.n:Int)+1)}:=⟨Nat.le_succ _,fun l hl e=>aQ9 hg hb.gl hl e⟩;have hnew:∀e,lsem {b with n:=b.n+1,g:=b.g ++ [f],cls:=b.cls ++ cl ((b.n:Int)+1),known:=put b.known q ((b.n:Int)+1)} ((b.n:Int)+1) e=f e:=fun e=>aRa hg hb.gl e
  have hlitn:isLit (b.n+1:Nat) ((b.n:Int)+1)=true:=by simp only[isLit,zBQ];omega
  refine⟨⟨by simp[hb.gl],by show 1<=b.n+1;omega,by have:=hb.nk;show K+1<=b.n+1;omega,k2,fun e=>(hle.sem 1 hb.lit1 e).trans (hb.one e),fun c hc=>?_,fun e c hc=>?_,fun e l hl hv=>?_,fun v h1 h2 e=>?_,fun q' o ho=>?_,hb.full,k5 hb.cm⟩,hle,hlitn,hnew⟩
  ·rcases zBE.1 hc with hc | hc
   ·rw[isClause,zAD];exact fun x hx=>aAr (zAD.1 (hb.lits c hc) x hx) (Nat.le_succ _)
   ·exact hcl'.lit c hc
  ·rcases zBE.1 hc with hc | hc
   ·obtain⟨l,hl,hv⟩:=hb.sat e c hc;exact⟨l,hl,by rw[hle.sem l (zAD.1 (hb.lits c hc) l hl) e];exact hv⟩
   ·exact hcl'.sat e (fun l=>lsem _ l e) (fun l hl=>hle.sem l hl e) (fun l hl=>aAn _ hl e) (hnew e) c hc
  ·have hold:∀l,isLit b.n l=true->lsem b l e=true->Der (b.cls ++ cl ((b.n:Int)+1)) (given K e) l:=fun l hl hv=>(hb.der e l hl hv).mono (fun c hc=>zAO _ hc) (fun _ h=>h)
   obtain⟨d1,d2⟩:=hcl'.der e (b.cls ++ cl ((b.n:Int)+1)) (given K e) (fun c hc=>zAP _ hc) hold;have hl': -((b.n:Int)+1)<=l/\l<=(b.n:Int)+1/\l≠0:=by
    have:isLit ((b.n+1:Nat):Int) l=true:=hl;simp only[isLit,zBQ]at this;omega
   by_cases e1:l=(b.n:Int)+1
   ·subst e1;exact d1 ((hnew e).symm.trans hv)
   ·by_cases e2:l= -((b.n:Int)+1)
    ·subst e2;rw[aAn _ (by omega),hnew]at hv;exact d2 (by simpa using hv)
    ·have hlb:isLit b.n l=true:=by simp only[isLit,zBQ];omega
     exact hold l hlb (by rw[<-hle.sem l hlb e];exact hv)
  ·have hv:isLit b.n (v:Int)=true:=by have:=hb.nk;simp only[isLit,zBQ];omega
   exact(hle.sem v hv e).trans (hb.inp v h1 h2 e)
  ·have ho':look (put b.known q ((b.n:Int)+1)) q'=some o:=ho;rw[bA1]at ho'
   by_cases e:q'=q
   ·rw[if_pos e]at ho';obtain rfl:=zAH ho';subst e;have hn1:=hb.n1;refine⟨hlitn,by omega,aAr q1 (Nat.le_succ _),aAr q2 (Nat.le_succ _),fun h0 e=>?_,fun h0 e=>?_⟩
    ·rcases q3 with⟨_,hh⟩ |⟨h1,_⟩
     ·rw[hnew,hh,hle.sem _ q1,hle.sem _ q2]
     ·omega
    ·rcases q3 with⟨h1,_⟩ |⟨_,hh⟩
     ·omega
     ·rw[hnew,hh,hle.sem _ q1,hle.sem _ q2]
   ·rw[if_neg e]at ho';obtain⟨h1,h2,h3,h4,h5,h6⟩:=hb.kn q' o ho';refine⟨aAr h1 (Nat.le_succ _),h2,aAr h3 (Nat.le_succ _),aAr h4 (Nat.le_succ _),fun h0 e=>?_,fun h0 e=>?_⟩
    ·rw[hle.sem _ h1,hle.sem _ h3,hle.sem _ h4];exact h5 h0 e
    ·rw[hle.sem _ h1,hle.sem _ h3,hle.sem _ h4];exact h6 h0 e
theorem cl2{n a b:Int}(h1:isLit n a=true)(h2:isLit n b=true):isClause n [a,b]=true:=by simp[isClause,h1,h2]
theorem cl3{n a b c:Int}(h1:isLit n a=true)(h2:isLit n b=true)(h3:isLit n c=true):isClause n [a,b,c]=true:=by simp[isClause,h1,h2,h3]
theorem bA2{K:Nat}{b:Bd}(hb:Ok K b){x y:Int}(hx:isLit b.n x=true)(hy:isLit b.n y=true){o:Int}(ho:o=(b.n:Int)+1):GateOk b (andCl x y o) o (fun e=>lsem b x e && lsem b y e):=by
 have lo:isLit (b.n+1:Nat) o=true:=by simp only[isLit,zBQ];omega
 have lx:=aAr hx (Nat.le_succ b.n);have ly:=aAr hy (Nat.le_succ b.n);have o0:=aAc lo;have x0:=aAc hx;have y0:=aAc hy;refine⟨fun c hc=>?_,fun e s hs hn hso c hc=>?_,fun e cs gs hcs hd=>⟨fun hf=>?_,fun hf=>?_⟩⟩
 ·simp only[andCl,zBF,List.not_mem_nil,or_false]at hc;rcases hc with rfl | rfl | rfl
  ·exact cl2 (aAm lo) lx
  ·exact cl2 (aAm lo) ly
  ·exact cl3 lo (aAm lx) (aAm ly)
 ·have sx:=hs x hx;have sy:=hs y hy;have nx:=hn x x0;have ny:=hn y y0;have no:=hn o o0;simp only[andCl,zBF,List.not_mem_nil,or_false]at hc;rw[hso]at no;rw[sx]at nx;rw[sy]at ny;rcases hc with rfl | rfl | rfl
  ·simp only[zBF,List.not_mem_nil,or_false,exists_eq_or_imp,exists_eq_left];rw[no,sx];cases lsem b x e <;> cases lsem b y e <;> simp
  ·simp only[zBF,List.not_mem_nil,or_false,exists_eq_or_imp,exists_eq_left];rw[no,sy];cases lsem b x e <;> cases lsem b y e <;> simp
  ·simp only[zBF,List.not_mem_nil,or_false,exists_eq_or_imp,exists_eq_left];rw[hso,nx,ny];cases lsem b x e <;> cases lsem b y e <;> simp
 ·simp only[Bool.and_eq_true]at hf;refine .unit_ (c:= [o,-x,-y]) (hcs _ (by simp[andCl])) (by simp) fun m hm hne=>?_
  simp only[zBF,List.not_mem_nil,or_false]at hm;rcases hm with rfl | rfl | rfl
  ·exact absurd rfl hne
  ·rw[Int.neg_neg];exact hd x hx hf.1
  ·rw[Int.neg_neg];exact hd y hy hf.2
 ·by_cases hxe:lsem b x e=true
  ·have hye:lsem b y e=false:=by
    cases h:lsem b y e with
    | false=>rfl
    | true=>simp[hxe,h]at hf
   refine .unit_ (c:= [-o,y]) (hcs _ (by simp[andCl])) (by simp) fun m hm hne=>?_
   simp only[zBF,List.not_mem_nil,or_false]at hm;rcases hm with rfl | rfl
   ·exact absurd rfl hne
   ·exact hd (-m) (aAm hy) (by rw[aAn b y0,hye];rfl)
  ·refine .unit_ (c:= [-o,x]) (hcs _ (by simp[andCl])) (by simp) fun m hm hne=>?_
   simp only[zBF,List.not_mem_nil,or_false]at hm;rcases hm with rfl | rfl
   ·exact absurd rfl hne
   ·exact hd (-m) (aAm hx) (by rw[aAn b x0];simpa using hxe)
theorem bA3{K:Nat}{b:Bd}(hb:Ok K b){x y:Int}(hx:isLit b.n x=true)(hy:isLit b.n y=true){o:Int}(ho:o=(b.n:Int)+1):GateOk b (xorCl x y o) o (fun e=>Bool.xor (lsem b x e) (lsem b y e)):=by
 have lo:isLit (b.n+1:Nat) o=true:=by simp only[isLit,zBQ];omega
 have lx:=aAr hx (Nat.le_succ b.n);have ly:=aAr hy (Nat.le_succ b.n);have o0:=aAc lo;have x0:=aAc hx;have y0:=aAc hy;refine⟨fun c hc=>?_,fun e s hs hn hso c hc=>?_,fun e cs gs hcs hd=>?_⟩
 ·simp only[xorCl,zBF,List.not_mem_nil,or_false]at hc;rcases hc with rfl | rfl | rfl | rfl
  ·exact cl3 (aAm lo) lx ly
  ·exact cl3 (aAm lo) (aAm lx) (aAm ly)
  ·exact cl3 lo (aAm lx) ly
  ·exact cl3 lo lx (aAm ly)
 ·have sx:=hs x hx;have sy:=hs y hy;have nx:=hn x x0;have ny:=hn y y0;have no:=hn o o0;simp only[xorCl,zBF,List.not_mem_nil,or_false]at hc;rw[hso]at no;rw[sx]at nx;rw[sy]at ny;rcases hc with rfl | rfl | rfl | rfl
  all_goals
   simp only[zBF,List.not_mem_nil,or_false,exists_eq_or_imp,exists_eq_left];simp only[hso,no,nx,ny,sx,sy];cases lsem b x e <;> cases lsem b y e <;> simp
 ·have step:∀(a c d:Int), [a,c,d]∈xorCl x y o->Der cs gs (-c)->Der cs gs (-d)->Der cs gs a:=fun a c d hm h1 h2=>
   .unit_ (c:= [a,c,d]) (hcs _ hm) (by simp) fun m hm hne=>by
    simp only[zBF,List.not_mem_nil,or_false]at hm;rcases hm with rfl | rfl | rfl
    ·exact absurd rfl hne
    ·exact h1
    ·exact h2
  have px:lsem b x e=true->Der cs gs x:=hd x hx;have py:lsem b y e=true->Der cs gs y:=hd y hy;have qx:lsem b x e=false->Der cs gs (-x):=fun h=>hd (-x) (aAm hx) (by rw[aAn b x0,h];rfl)
  have qy:lsem b y e=false->Der cs gs (-y):=fun h=>hd (-y) (aAm hy) (by rw[aAn b y0,h];rfl)
  cases hxe:lsem b x e <;> cases hye:lsem b y e <;> refine⟨fun h=>?_,fun h=>?_⟩ <;> first |(simp at h;done) | skip
  ·exact step (-o) x y (by simp[xorCl]) (qx hxe) (qy hye)
  ·exact step o x (-y) (by simp[xorCl]) (qx hxe) (by rw[Int.neg_neg];exact py hye)
  ·exact step o (-x) y (by simp[xorCl]) (by rw[Int.neg_neg];exact px hxe) (qy hye)
  ·exact step (-o) (-x) (-y) (by simp[xorCl]) (by rw[Int.neg_neg];exact px hxe) (by rw[Int.neg_neg];exact py hye)
theorem aLp{n:Nat}{x y:Int}(hx:isLit n x=true)(hy:isLit n y=true):isLit n (min x y)=true/\isLit n (max x y)=true/\((min x y=x/\max x y=y)\/(min x y=y/\max x y=x)):=by
 rcases Int.le_total x y with h | h
 ·rw[Int.min_eq_left h,Int.max_eq_right h];exact⟨hx,hy, .inl ⟨rfl,rfl⟩⟩
 ·rw[Int.min_eq_right h,Int.max_eq_left h];exact⟨hy,hx, .inr ⟨rfl,rfl⟩⟩
theorem aCk{x y:Int}{b:Bd}(h:(and x y b).2.full=false):b.full=false:=by
 unfold and at h;split at h
 ·exact h
 split at h
 ·exact h
 split at h
 ·exact h
 exact aPe h
theorem aGg{K:Nat}{b:Bd}{x y:Int}(hb:Ok K b)(hx:isLit b.n x=true)(hy:isLit b.n y=true):Sp K b (and x y b) (fun e=>lsem b x e && lsem b y e):=by
 unfold and
 by_cases h1:x= -1\/y= -1\/x= -y
 ·rw[if_pos h1];refine Sp.same hb (aAm hb.lit1) fun e=>?_
  rw[hb.no];rcases h1 with rfl | rfl | rfl
  ·rw[hb.no];rfl
  ·rw[hb.no,Bool.and_false]
  ·rw[aAn b (aAc hy)];simp
 rw[if_neg h1]
 by_cases h2:x=1\/x=y
 ·rw[if_pos h2];refine Sp.same hb hy fun e=>?_
  rcases h2 with rfl | rfl
  ·rw[hb.one];rfl
  ·simp
 rw[if_neg h2]
 by_cases h3:y=1
 ·rw[if_pos h3];refine Sp.same hb hx fun e=>?_
  subst h3;rw[hb.one,Bool.and_true]
 rw[if_neg h3];obtain⟨m1,m2,m3⟩:=aLp hx hy;refine(aU1 hb (fun o ho=>bA2 hb m1 m2 ho) ⟨m1,m2, .inl ⟨rfl,fun _=>rfl⟩⟩).congr fun e=>?_
 rcases m3 with⟨h4,h5⟩ |⟨h4,h5⟩
 ·rw[h4,h5]
 ·rw[h4,h5,Bool.and_comm]
theorem aG5{x y:Int}{b:Bd}(h:(or x y b).2.full=false):b.full=false:=aCk (x:= -x) (y:= -y) h
theorem or_sp{K:Nat}{b:Bd}{x y:Int}(hb:Ok K b)(hx:isLit b.n x=true)(hy:isLit b.n y=true):Sp K b (or x y b) (fun e=>lsem b x e || lsem b y e):=by
 intro hf;obtain⟨h1,h2,h3,h4⟩:=aGg hb (aAm hx) (aAm hy) hf;refine⟨h1,h2,aAm h3,fun e=>?_⟩;have h5:lsem (and (-x) (-y) b).2 (and (-x) (-y) b).1 e=(lsem b (-x) e && lsem b (-y) e):=h4 e
 show lsem (and (-x) (-y) b).2 (-(and (-x) (-y) b).1) e=(lsem b x e || lsem b y e)
 rw[aAn _ (aAc h3),h5,aAn b (aAc hx),aAn b (aAc hy)];cases lsem b x e <;> cases lsem b y e <;> rfl
theorem aU2{n:Nat}{x:Int}(hx:isLit n x=true):isLit n (max x (-x))=true/\((max x (-x)=x/\0<=x)\/(max x (-x)= -x/\x<0)):=by
 rcases Int.lt_or_le x 0 with h | h
 ·have:max x (-x)= -x:=by omega
  rw[this];exact⟨aAm hx, .inr ⟨rfl,h⟩⟩
 ·have:max x (-x)=x:=by omega
  rw[this];exact⟨hx, .inl ⟨rfl,h⟩⟩
theorem aDy{x y:Int}{b:Bd}(h:(xor x y b).2.full=false):b.full=false:=by
 unfold xor at h;split at h
 ·exact h
 split at h
 ·exact h
 split at h
 ·exact h
 split at h
 ·exact h
 split at h
 ·exact h
 split at h
 ·exact h
 exact aPe h
theorem aJ5{K:Nat}{b:Bd}{x y:Int}(hb:Ok K b)(hx:isLit b.n x=true)(hy:isLit b.n y=true):Sp K b (xor x y b) (fun e=>Bool.xor (lsem b x e) (lsem b y e)):=by
 unfold xor
 by_cases h1:x= -1
 ·rw[if_pos h1];exact Sp.same hb hy fun e=>by rw[h1,hb.no];simp
 rw[if_neg h1]
 by_cases h2:y= -1
 ·rw[if_pos h2];exact Sp.same hb hx fun e=>by rw[h2,hb.no];simp
 rw[if_neg h2]
 by_cases h3:x=1
 ·rw[if_pos h3];exact Sp.same hb (aAm hy) fun e=>by rw[h3,hb.one,aAn b (aAc hy)];simp
 rw[if_neg h3]
 by_cases h4:y=1
 ·rw[if_pos h4];exact Sp.same hb (aAm hx) fun e=>by rw[h4,hb.one,aAn b (aAc hx)];simp
 rw[if_neg h4]
 by_cases h5:x=y
 ·rw[if_pos h5];exact Sp.same hb (aAm hb.lit1) fun e=>by rw[h5,hb.no];simp
 rw[if_neg h5]
 by_cases h6:x= -y
 ·rw[if_pos h6];exact Sp.same hb hb.lit1 fun e=>by rw[h6,hb.one,aAn b (aAc hy)];cases lsem b y e <;> rfl
 rw[if_neg h6];obtain⟨ax,bx⟩:=aU2 hx;obtain⟨ay,by_⟩:=aU2 hy;obtain⟨m1,m2,m3⟩:=aLp ax ay;have hm:Sp K b (xg x y b) (fun e=>Bool.xor (lsem b (min (max x (-x)) (max y (-y))) e) (lsem b (max (max x (-x)) (max y (-y))) e)):=
  aU1 hb (fun o ho=>bA3 hb m1 m2 ho) ⟨m1,m2, .inr ⟨rfl,fun _=>rfl⟩⟩
 intro hf;obtain⟨g1,g2,g3,g4⟩:=hm hf;have hval:∀e,lsem (xg x y b).2 (xg x y b).1 e=Bool.xor (lsem b (max x (-x)) e) (lsem b (max y (-y)) e):=by
  intro e;have g5:lsem (xg x y b).2 (xg x y b).1 e=Bool.xor (lsem b (min (max x (-x)) (max y (-y))) e) (lsem b (max (max x (-x)) (max y (-y))) e):=g4 e;rcases m3 with⟨q1,q2⟩ |⟨q1,q2⟩
  ·rw[g5,q1,q2]
  ·rw[g5,q1,q2,Bool.xor_comm]
 have nx:=aAn b (aAc hx);have ny:=aAn b (aAc hy);have nr:=aAn (xg x y b).2 (aAc g3);refine⟨g1,g2,?_,fun e=>?_⟩
 ·show isLit (xg x y b).2.n (if _ then _ else _)=true
  split
  ·exact aAm g3
  ·exact g3
 ·show lsem (xg x y b).2 (if _ then _ else _) e=Bool.xor (lsem b x e) (lsem b y e)
  rcases bx with⟨ex,sx⟩ |⟨ex,sx⟩ <;> rcases by_ with⟨ey,sy⟩ |⟨ey,sy⟩
  ·have d1:decide (x<0)=false:=by simp;omega
   have d2:decide (y<0)=false:=by simp;omega
   rw[d1,d2,if_neg (by decide),hval,ex,ey]
  ·have d1:decide (x<0)=false:=by simp;omega
   have d2:decide (y<0)=true:=by simpa using sy
   rw[d1,d2,if_pos (by decide),nr,hval,ex,ey,ny];cases lsem b x e <;> cases lsem b y e <;> rfl
  ·have d1:decide (x<0)=true:=by simpa using sx
   have d2:decide (y<0)=false:=by simp;omega
   rw[d1,d2,if_pos (by decide),nr,hval,ex,ey,nx];cases lsem b x e <;> cases lsem b y e <;> rfl
  ·have d1:decide (x<0)=true:=by simpa using sx
   have d2:decide (y<0)=true:=by simpa using sy
   rw[d1,d2,if_neg (by decide),hval,ex,ey,nx,ny];cases lsem b x e <;> cases lsem b y e <;> rfl
theorem aPf{c x y:Int}{b:Bd}(h:(pick c x y b).2.full=false):b.full=false:=by
 unfold pick at h;split at h
 ·exact h
 split at h
 ·exact h
 exact aCk (aCk (aG5 h))
theorem bDh{K:Nat}{b:Bd}{c x y:Int}(hb:Ok K b)(hc:isLit b.n c=true)(hx:isLit b.n x=true)(hy:isLit b.n y=true):Sp K b (pick c x y b) (fun e=>if lsem b c e=true then lsem b x e else lsem b y e):=by
 unfold pick
 by_cases h1:c=1\/x=y
 ·rw[if_pos h1];refine Sp.same hb hx fun e=>?_
  rcases h1 with rfl | rfl
  ·rw[hb.one,if_pos rfl]
  ·split <;> rfl
 rw[if_neg h1]
 by_cases h2:c= -1
 ·rw[if_pos h2];exact Sp.same hb hy fun e=>by rw[h2,hb.no];simp
 rw[if_neg h2];intro hf;obtain⟨g1,g2,g3,g4⟩:=aGg hb hc hx (aCk (aG5 hf));obtain⟨k1,k2,k3,k4⟩:=aGg g1 (aAm (aAr hc g2.n)) (aAr hy g2.n) (aG5 hf);obtain⟨o1,o2,o3,o4⟩:=or_sp k1 (aAr g3 k2.n) k3 hf;refine⟨o1,(g2.trans k2).trans o2,o3,fun e=>?_⟩;have e4:=o4 e;have e3:=k4 e;have e2:=g4 e;simp only at e4 e3 e2
 show _=if lsem b c e=true then lsem b x e else lsem b y e
 rw[e4,e3,k2.sem _ g3,e2,aAn _ (aAc hc),g2.sem _ hc,g2.sem _ hy];cases lsem b c e <;> cases lsem b x e <;> cases lsem b y e <;> rfl
end Go.Proofs.YtchdbhggbdcapaaGreat.C
end
section
namespace Go.Proofs.YtchdbhggbdcapaaGreat.C
open S
def bit(v:Bool):Nat:=if v=true then 1 else 0
theorem aFp(v:Bool):bit v<=1:=by cases v <;> simp[bit]
def wv(b:Bd)(e:E):List Int->Nat
 | []=>0
 | l :: r=>bit (lsem b l e)+2*wv b e r
def Wd(b:Bd)(w:List Int):Prop:=∀l∈w,isLit b.n l=true
theorem Wd.at_{b:Bd}{w:List Int}(h:Wd b w){i:Nat}(hi:i<w.length):isLit b.n (w.getD i 0)=true:=by
 rw[List.getD,zAB hi];exact h _ (zBM hi)
theorem Wd.up{b b':Bd}{w:List Int}(h:Wd b w)(hl:Le b b'):Wd b' w:=fun l hm=>aAr (h l hm) hl.n
theorem Wd.nil_(b:Bd):Wd b []:=fun _ h=>by cases h
theorem Wd.snoc{b:Bd}{w:List Int}{l:Int}(h:Wd b w)(hl:isLit b.n l=true):Wd b (w ++ [l]):=fun m hm=>by
 rcases zBE.1 hm with hm | hm
 ·exact h m hm
 ·rw[zBD.1 hm];exact hl
theorem Wd.cons{b:Bd}{w:List Int}{l:Int}(h:Wd b w)(hl:isLit b.n l=true):Wd b (l :: w):=fun m hm=>by
 rcases zBF.1 hm with rfl | hm
 ·exact hl
 ·exact h m hm
theorem Wd.rep{b:Bd}{n:Nat}{l:Int}(hl:isLit b.n l=true):Wd b (List.replicate n l):=fun m hm=>by rw[(List.mem_replicate.1 hm).2];exact hl
theorem Wd.take{b:Bd}{w:List Int}(h:Wd b w)(n:Nat):Wd b (w.take n):=fun m hm=>h m (List.mem_of_mem_take hm)
theorem Wd.set{b:Bd}{w:List Int}{l:Int}(h:Wd b w)(hl:isLit b.n l=true)(i:Nat):Wd b (w.set i l):=fun m hm=>by
 rcases List.mem_or_eq_of_mem_set hm with hm | rfl
 ·exact h m hm
 ·exact hl
theorem Wd.append{b:Bd}{w v:List Int}(h:Wd b w)(hv:Wd b v):Wd b (w ++ v):=fun m hm=>(zBE.1 hm).elim (h m) (hv m)
theorem wv_le{b b':Bd}(h:Le b b'){w:List Int}(hw:Wd b w)(e:E):wv b' e w=wv b e w:=by
 induction w with
 | nil=>rfl
 | cons l r ih=>
  rw[wv,wv,ih fun m hm=>hw m (zAQ _ hm),h.sem l (hw l (List.mem_cons_self ..))]
theorem aM5(b:Bd)(e:E)(w v:List Int):wv b e (w ++ v)=wv b e w+2 ^ w.length*wv b e v:=by
 induction w with
 | nil=>simp[wv]
 | cons l r ih=>
  rw[List.cons_append,wv,wv,ih,List.length_cons,Nat.pow_succ,Nat.mul_add,Nat.add_assoc]
  congr 2
  rw[<-Nat.mul_assoc,Nat.mul_comm 2]
theorem aOj(b:Bd)(e:E)(w:List Int)(l:Int):wv b e (w ++ [l])=wv b e w+2 ^ w.length*bit (lsem b l e):=by rw[aM5];simp[wv]
theorem wv_lt(b:Bd)(e:E)(w:List Int):wv b e w<2 ^ w.length:=by
 induction w with
 | nil=>simp[wv]
 | cons l r ih=>
  rw[wv,List.length_cons,Nat.pow_succ];have:=aFp (lsem b l e);omega
def bt(b:Bd)(e:E)(w:List Int)(i:Nat):Bool:=lsem b (w.getD i 0) e
theorem aAx(b:Bd)(e:E)(w:List Int)(i:Nat):(wv b e w).testBit i=(decide (i<w.length) && bt b e w i):=by
 induction w generalizing i with
 | nil=>simp[wv]
 | cons l r ih=>
  rw[wv];cases i with
  | zero=>
   unfold bt bit;cases h:lsem b l e <;> simp[h,Nat.testBit_zero]
  | succ i=>
   have h1:(bit (lsem b l e)+2*wv b e r) / 2=wv b e r:=by have:=aFp (lsem b l e);omega
   rw[Nat.testBit_succ,h1,ih];simp[bt]
theorem aG6(b:Bd)(e:E)(w:List Int){i:Nat}(hi:i<w.length):wv b e (w.take (i+1))=wv b e (w.take i)+2 ^ i*bit (bt b e w i):=by
 rw[List.take_add_one,zAB hi]
 show wv b e (w.take i ++ [w[i]])=_
 rw[aOj,zAZ,Nat.min_eq_left (Nat.le_of_lt hi)];unfold bt;rw[List.getD,zAB hi];rfl
theorem aEr(b:Bd)(e:E)(w:List Int)(i:Nat):wv b e (w.take i)=wv b e w % 2 ^ i:=by
 rcases Nat.lt_or_ge i w.length with h | h
 ·have h1:=aM5 b e (w.take i) (w.drop i);rw[List.take_append_drop,zAZ,Nat.min_eq_left (Nat.le_of_lt h)]at h1;have h2:=wv_lt b e (w.take i);rw[zAZ,Nat.min_eq_left (Nat.le_of_lt h)]at h2;rw[h1,Nat.add_mul_mod_self_left,zAU h2]
 ·rw[zAK h];exact(zAU (zAL (wv_lt b e w) (zAJ (by decide) h))).symm
theorem wv_eq{b b':Bd}{e:E}{w w':List Int}(hl:w.length=w'.length)(h:∀i,i<w.length->bt b e w i=bt b' e w' i):wv b e w=wv b' e w':=by
 apply Nat.eq_of_testBit_eq;intro i;rw[aAx,aAx,hl]
 by_cases hi:i<w'.length
 ·rw[h i (by omega)]
 ·simp[hi]
theorem aJ6(b:Bd)(e:E)(n:Nat)(l:Int):wv b e (List.replicate n l)=bit (lsem b l e)* (2 ^ n-1):=by
 induction n with
 | zero=>simp[wv]
 | succ n ih=>
  rw[List.replicate_succ,wv,ih,Nat.pow_succ];have:=Nat.two_pow_pos n;have:=aFp (lsem b l e);rcases(show bit (lsem b l e)=0\/bit (lsem b l e)=1 by omega)with h | h <;> rw[h] <;> omega
theorem aM6{b:Bd}{e:E}{w v:List Int}{i:Nat}:bt b e (w ++ v) i=if i<w.length then bt b e w i else bt b e v (i-w.length):=by
 unfold bt;simp only[List.getD];split
 ·rw[zAE (by assumption)]
 ·rw[zAF (by omega)]
theorem aRc{b:Bd}{e:E}{n:Nat}{l:Int}{i:Nat}(h:i<n):bt b e (List.replicate n l) i=lsem b l e:=by
 unfold bt;simp only[List.getD,List.getElem?_replicate,if_pos h,Option.getD_some]
theorem bDi{b:Bd}{e:E}{w:List Int}{n i:Nat}(h:i<n):bt b e (w.take n) i=bt b e w i:=by
 unfold bt;simp only[List.getD,zBB,if_pos h]
theorem bt_le{b b':Bd}(h:Le b b'){w:List Int}(hw:Wd b w){i:Nat}(hi:i<w.length)(e:E):bt b' e w i=bt b e w i:=h.sem _ (hw.at_ hi) e
structure WSp(K:Nat)(b:Bd)(r:List Int×Bd)(n:Nat):Prop where
 ok:Ok K r.2
 le:Le b r.2
 wd:Wd r.2 r.1
 len:r.1.length=n
def aBm(c:Int)(x y:List Int)(b:Bd):Nat->List Int×Bd
 | 0=>([],b)
 | i+1=>((aBm c x y b i).1 ++ [(pick c (x.getD i 0) (y.getD i 0) (aBm c x y b i).2).1],(pick c (x.getD i 0) (y.getD i 0) (aBm c x y b i).2).2)
def picks(c:Int)(x y:List Int)(b:Bd):List Int×Bd:=aBm c x y b x.length
theorem aRd{c:Int}{x y:List Int}{b:Bd}{i:Nat}(h:(aBm c x y b i).2.full=false):b.full=false:=by
 induction i with
 | zero=>exact h
 | succ i ih=>exact ih (aPf h)
theorem aCa{c:Int}{x y:List Int}{b:Bd}{i:Nat}:(aBm c x y b i).1.length=i:=by
 induction i with
 | zero=>rfl
 | succ i ih=>simp[aBm,ih]
theorem aWa{K:Nat}{b:Bd}{c:Int}{x y:List Int}(hb:Ok K b)(hc:isLit b.n c=true)(hx:Wd b x)(hy:Wd b y)(hl:x.length=y.length){i:Nat}(hi:i<=x.length)(hf:(aBm c x y b i).2.full=false):
 WSp K b (aBm c x y b i) i/\∀e j,j<i->bt (aBm c x y b i).2 e (aBm c x y b i).1 j=if lsem b c e=true then bt b e x j else bt b e y j:=by
 induction i with
 | zero=>exact⟨⟨hb,Le.refl _,Wd.nil_ _,rfl⟩,fun e j hj=>by omega⟩
 | succ i ih=>
  obtain⟨⟨h1,h2,h3,h4⟩,h5⟩:=ih (by omega) (aPf hf);have lx:=hx.at_ (i:=i) (by omega);have ly:=hy.at_ (i:=i) (by omega);obtain⟨g1,g2,g3,g4⟩:=bDh h1 (aAr hc h2.n) (aAr lx h2.n) (aAr ly h2.n) hf;refine⟨⟨g1,h2.trans g2,(h3.up g2).snoc g3,aCa⟩,fun e j hj=>?_⟩;have g5:=g4 e;simp only at g5;rw[h2.sem _ hc,h2.sem _ lx,h2.sem _ ly]at g5
  show bt _ e ((aBm c x y b i).1 ++ [_]) j=_
  rw[aM6,h4]
  by_cases e1:j<i
  ·rw[if_pos e1,<-h5 e j e1];exact bt_le g2 h3 (by rw[h4];exact e1) e
  ·obtain rfl:j=i:=by omega
   rw[if_neg e1];have e2:bt (pick c (x.getD j 0) (y.getD j 0) (aBm c x y b j).2).2 e [(pick c (x.getD j 0) (y.getD j 0) (aBm c x y b j).2).1] (j-j)=lsem (pick c (x.getD j 0) (y.getD j 0) (aBm c x y b j).2).2 (pick c (x.getD j 0) (y.getD j 0) (aBm c x y b j).2).1 e:=by
    rw[zBG];rfl
   exact e2.trans g5
theorem aCy{c:Int}{x y:List Int}{b:Bd}(h:(picks c x y b).2.full=false):b.full=false:=aRd h
theorem aHi{K:Nat}{b:Bd}{c:Int}{x y:List Int}(hb:Ok K b)(hc:isLit b.n c=true)(hx:Wd b x)(hy:Wd b y)(hl:x.length=y.length)(hf:(picks c x y b).2.full=false):
 WSp K b (picks c x y b) x.length/\(∀e j,j<x.length->bt (picks c x y b).2 e (picks c x y b).1 j=if lsem b c e=true then bt b e x j else bt b e y j)/\
 ∀e,wv (picks c x y b).2 e (picks c x y b).1=if lsem b c e=true then wv b e x else wv b e y:=by
 obtain⟨h1,h2⟩:=aWa hb hc hx hy hl (zBJ _) hf;refine⟨h1,h2,fun e=>?_⟩;have h3:=h1.len
 by_cases hv:lsem b c e=true
 ·rw[if_pos hv];refine wv_eq h3 fun i hi=>?_
  have:=h2 e i (by rw[<-h3];exact hi);rw[if_pos hv]at this;exact this
 ·rw[if_neg hv];refine wv_eq (h3.trans hl) fun i hi=>?_
  have:=h2 e i (by rw[<-h3];exact hi);rw[if_neg hv]at this;exact this
def fa(x y k:Int)(b:Bd):(Int×Int)×Bd:=
 let h:=xor x y b
 let s:=xor h.1 k h.2
 let p:=and x y s.2
 let q:=and h.1 k p.2
 let r:=or p.1 q.1 q.2
 ((s.1,r.1),r.2)
theorem aU3{x y k:Int}{b:Bd}(h:(fa x y k b).2.full=false):b.full=false:=aDy (aDy (aCk (aCk (aG5 h))))
theorem fa_ok{K:Nat}{b:Bd}{x y k:Int}(hb:Ok K b)(hx:isLit b.n x=true)(hy:isLit b.n y=true)(hk:isLit b.n k=true)(hf:(fa x y k b).2.full=false):
 Ok K (fa x y k b).2/\Le b (fa x y k b).2/\isLit (fa x y k b).2.n (fa x y k b).1.1=true/\isLit (fa x y k b).2.n (fa x y k b).1.2=true/\
 ∀e,bit (lsem (fa x y k b).2 (fa x y k b).1.1 e)+2*bit (lsem (fa x y k b).2 (fa x y k b).1.2 e)=bit (lsem b x e)+bit (lsem b y e)+bit (lsem b k e):=by
 unfold fa at hf⊢;simp only at hf⊢;have f4:=aG5 hf;have f3:=aCk f4;have f2:=aCk f3;have f1:=aDy f2;obtain⟨a1,a2,a3,a4⟩:=aJ5 hb hx hy f1;obtain⟨b1,b2,b3,b4⟩:=aJ5 a1 a3 (aAr hk a2.n) f2;obtain⟨c1,c2,c3,c4⟩:=aGg b1 (aAr hx (a2.trans b2).n) (aAr hy (a2.trans b2).n) f3;obtain⟨d1,d2,d3,d4⟩:=aGg c1 (aAr a3 (b2.trans c2).n) (aAr hk (a2.trans (b2.trans c2)).n) f4;obtain⟨e1,e2,e3,e4⟩:=or_sp d1 (aAr c3 d2.n) d3 hf;refine⟨e1,a2.trans (b2.trans (c2.trans (d2.trans e2))),aAr b3 (c2.trans (d2.trans e2)).n,e3,fun e=>?_⟩;have v1:=a4 e;have v2:=b4 e;have v3:=c4 e;have v4:=d4 e;have v5:=e4 e;simp only at v1 v2 v3 v4 v5;rw[(c2.trans (d2.trans e2)).sem _ b3,v2,v5,d2.sem _ c3,v3,v4,(b2.trans c2).sem _ a3,v1,a2.sem _ hk,(a2.trans (b2.trans c2)).sem _ hk,(a2.trans b2).sem _ hx,(a2.trans b2).sem _ hy];cases lsem b x e <;> cases lsem b y e <;> cases lsem b k e <;> rfl
def sumTo(x y:List Int)(c:Int)(b:Bd):Nat->(List Int×Int)×Bd
 | 0=>(([],c),b)
 | i+1=>(((sumTo x y c b i).1.1 ++ [(fa (x.getD i 0) (y.getD i 0) (sumTo x y c b i).1.2 (sumTo x y c b i).2).1.1],(fa (x.getD i 0) (y.getD i 0) (sumTo x y c b i).1.2 (sumTo x y c b i).2).1.2),(fa (x.getD i 0) (y.getD i 0) (sumTo x y c b i).1.2 (sumTo x y c b i).2).2)
def sum(x y:List Int)(c:Int)(b:Bd):(List Int×Int)×Bd:=sumTo x y c b x.length
theorem aWb{x y:List Int}{c:Int}{b:Bd}{i:Nat}(h:(sumTo x y c b i).2.full=false):b.full=false:=by
 induction i with
 | zero=>exact h
 | succ i ih=>exact ih (aU3 h)
theorem aCg{x y:List Int}{c:Int}{b:Bd}{i:Nat}:(sumTo x y c b i).1.1.length=i:=by
 induction i with
 | zero=>rfl
 | succ i ih=>simp[sumTo,ih]
structure SSp(K:Nat)(b:Bd)(r:(List Int×Int)×Bd)(n:Nat):Prop where
 ok:Ok K r.2
 le:Le b r.2
 wd:Wd r.2 r.1.1
 len:r.1.1.length=n
 lc:isLit r.2.n r.1.2=true
theorem bA4{K:Nat}{b:Bd}{c:Int}{x y:List Int}(hb:Ok K b)(hc:isLit b.n c=true)(hx:Wd b x)(hy:Wd b y){i:Nat}(hi:i<=x.length)(hiy:i<=y.length)(hf:(sumTo x y c b i).2.full=false):
 SSp K b (sumTo x y c b i) i/\∀e,wv (sumTo x y c b i).2 e (sumTo x y c b i).1.1+2 ^ i*bit (lsem (sumTo x y c b i).2 (sumTo x y c b i).1.2 e)=wv b e (x.take i)+wv b e (y.take i)+bit (lsem b c e):=by
 induction i with
 | zero=>exact⟨⟨hb,Le.refl _,Wd.nil_ _,rfl,hc⟩,fun e=>by simp[sumTo,wv]⟩
 | succ i ih=>
  obtain⟨⟨h1,h2,h3,h4,h5⟩,h6⟩:=ih (by omega) (by omega) (aU3 hf);have lx:=hx.at_ (i:=i) (by omega);have ly:=hy.at_ (i:=i) (by omega);obtain⟨g1,g2,g3,g4,g5⟩:=fa_ok h1 (aAr lx h2.n) (aAr ly h2.n) h5 hf;refine⟨⟨g1,h2.trans g2,(h3.up g2).snoc g3,aCg,g4⟩,fun e=>?_⟩;have k1:=h6 e;have k2:=g5 e;rw[aG6 b e x (by omega),aG6 b e y (by omega)]
  show wv (fa (x.getD i 0) (y.getD i 0) (sumTo x y c b i).1.2 (sumTo x y c b i).2).2 e ((sumTo x y c b i).1.1 ++ [(fa (x.getD i 0) (y.getD i 0) (sumTo x y c b i).1.2 (sumTo x y c b i).2).1.1])+2 ^ (i+1)*bit (lsem (fa (x.getD i 0) (y.getD i 0) (sumTo x y c b i).1.2 (sumTo x y c b i).2).2 (fa (x.getD i 0) (y.getD i 0) (sumTo x y c b i).1.2 (sumTo x y c b i).2).1.2 e)=_
  rw[aOj,h4,wv_le g2 h3,Nat.pow_succ];rw[h2.sem _ lx,h2.sem _ ly]at k2;unfold bt;generalize hP:2 ^ i=P at k1⊢;generalize bit (lsem (fa (x.getD i 0) (y.getD i 0) (sumTo x y c b i).1.2 (sumTo x y c b i).2).2 (fa (x.getD i 0) (y.getD i 0) (sumTo x y c b i).1.2 (sumTo x y c b i).2).1.1 e)=S at k2⊢;generalize bit (lsem (fa (x.getD i 0) (y.getD i 0) (sumTo x y c b i).1.2 (sumTo x y c b i).2).2 (fa (x.getD i 0) (y.getD i 0) (sumTo x y c b i).1.2 (sumTo x y c b i).2).1.2 e)=R at k2⊢;generalize bit (lsem b (x.getD i 0) e)=X at k2⊢;generalize bit (lsem b (y.getD i 0) e)=Y at k2⊢;generalize bit (lsem (sumTo x y c b i).2 (sumTo x y c b i).1.2 e)=Q at k1 k2⊢;have k3:P*S+P*2*R=P*X+P*Y+P*Q:=by
   rw[Nat.mul_assoc,<-Nat.mul_add,<-Nat.mul_add,<-Nat.mul_add,k2]
  omega
theorem aE5{x y:List Int}{c:Int}{b:Bd}(h:(sum x y c b).2.full=false):b.full=false:=aWb h
theorem aIb{K:Nat}{b:Bd}{c:Int}{x y:List Int}(hb:Ok K b)(hc:isLit b.n c=true)(hx:Wd b x)(hy:Wd b y)(hl:x.length=y.length)(hf:(sum x y c b).2.full=false):
 SSp K b (sum x y c b) x.length/\∀e,wv (sum x y c b).2 e (sum x y c b).1.1+2 ^ x.length*bit (lsem (sum x y c b).2 (sum x y c b).1.2 e)=wv b e x+wv b e y+bit (lsem b c e):=by
 obtain⟨h1,h2⟩:=bA4 hb hc hx hy (zBJ _) (by omega) hf;refine⟨h1,fun e=>?_⟩;have:=h2 e;rw[List.take_length,hl,List.take_length]at this;rw[hl];unfold sum;rw[hl];exact this
def notw(x:List Int):List Int:=x.map fun l=> -l
theorem aBy(x:List Int):(notw x).length=x.length:=by simp[notw]
theorem aK7{b:Bd}{x:List Int}(h:Wd b x):Wd b (notw x):=fun l hl=>by
 obtain⟨m,hm,rfl⟩:=zBU.1 hl;exact aAm (h m hm)
theorem aG7{b:Bd}{x:List Int}(h:Wd b x)(e:E):wv b e (notw x)+wv b e x+1=2 ^ x.length:=by
 induction x with
 | nil=>simp[notw,wv]
 | cons l r ih=>
  have h1:=ih fun m hm=>h m (zAQ _ hm)
  have h2:=aAn b (aAc (h l (List.mem_cons_self ..))) e;unfold notw at h1⊢;rw[List.map_cons,wv,wv,h2,List.length_cons,Nat.pow_succ];cases lsem b l e <;> simp[bit] <;> omega
def rep(n:Nat)(l:Int):List Int:=List.replicate n l
def minus(x:List Int)(b:Bd):List Int×Bd:=((sum (notw x) (rep x.length (-1)) 1 b).1.1,(sum (notw x) (rep x.length (-1)) 1 b).2)
theorem aM7{x:List Int}{b:Bd}(h:(minus x b).2.full=false):b.full=false:=aE5 h
theorem aRe{K:Nat}{b:Bd}{x:List Int}(hb:Ok K b)(hx:Wd b x)(hf:(minus x b).2.full=false):
 WSp K b (minus x b) x.length/\∀e,wv (minus x b).2 e (minus x b).1=(2 ^ x.length-wv b e x) % 2 ^ x.length:=by
 obtain⟨⟨h1,h2,h3,h4,h5⟩,h6⟩:=aIb hb hb.lit1 (aK7 hx) (Wd.rep (n:=x.length) (aAm hb.lit1)) (by simp[aBy]) hf;rw[aBy]at h4 h6;refine⟨⟨h1,h2,h3,h4⟩,fun e=>?_⟩;have k1:=h6 e;have k2:=aG7 hx e;rw[aJ6,hb.no,hb.one]at k1;have k3:=wv_lt (sum (notw x) (List.replicate x.length (-1)) 1 b).2 e (sum (notw x) (List.replicate x.length (-1)) 1 b).1.1;rw[h4]at k3;have e0:bit false=0:=rfl;have e1:bit true=1:=rfl;rw[e0,e1]at k1
 show wv (sum (notw x) (List.replicate x.length (-1)) 1 b).2 e (sum (notw x) (List.replicate x.length (-1)) 1 b).1.1=_
 generalize wv (sum (notw x) (List.replicate x.length (-1)) 1 b).2 e (sum (notw x) (List.replicate x.length (-1)) 1 b).1.1=R at k1 k3⊢;have k4:=aFp (lsem (sum (notw x) (List.replicate x.length (-1)) 1 b).2 (sum (notw x) (List.replicate x.length (-1)) 1 b).1.2 e);generalize bit (lsem (sum (notw x) (List.replicate x.length (-1)) 1 b).2 (sum (notw x) (List.replicate x.length (-1)) 1 b).1.2 e)=C at k1 k4;have hX:=wv_lt b e x;generalize wv b e x=X at k2 hX⊢;generalize 2 ^ x.length=P at k1 k2 k3 hX⊢;rcases(show C=0\/C=1 by omega)with rfl | rfl
 ·have:R=P-X:=by omega
  rw[this,zAU (by omega)]
 ·have h0:R=0:=by omega
  have h7:X=0:=by omega
  rw[h0,h7,Nat.sub_zero,Nat.mod_self]
def lastL(x:List Int):Int:=x.getD (x.length-1) 0
def aA6(x:List Int)(b:Bd):List Int×Bd:=picks (lastL x) (minus x b).1 x (minus x b).2
theorem aF3{x:List Int}{b:Bd}(h:(aA6 x b).2.full=false):b.full=false:=aM7 (aCy h)
theorem aDz{b:Bd}{x:List Int}(hx:Wd b x)(h0:0<x.length):isLit b.n (lastL x)=true:=hx.at_ (by omega)
theorem aJ7{K:Nat}{b:Bd}{x:List Int}(hb:Ok K b)(hx:Wd b x)(h0:0<x.length)(hf:(aA6 x b).2.full=false):
 WSp K b (aA6 x b) x.length/\∀e,wv (aA6 x b).2 e (aA6 x b).1=if lsem b (lastL x) e=true then(2 ^ x.length-wv b e x) % 2 ^ x.length else wv b e x:=by
 obtain⟨⟨h1,h2,h3,h4⟩,h5⟩:=aRe hb hx (aCy hf);have ll:=aDz hx h0;obtain⟨⟨g1,g2,g3,g4⟩,_,g5⟩:=aHi h1 (aAr ll h2.n) h3 (hx.up h2) h4 hf;refine⟨⟨g1,h2.trans g2,g3,g4.trans h4⟩,fun e=>?_⟩;refine(g5 e).trans ?_;rw[h2.sem _ ll,h5 e,wv_le h2 hx]
def eqTo(x y:List Int)(b:Bd):Nat->List Int×Bd
 | 0=>([],b)
 | i+1=>((eqTo x y b i).1 ++ [-(xor (x.getD i 0) (y.getD i 0) (eqTo x y b i).2).1],(xor (x.getD i 0) (y.getD i 0) (eqTo x y b i).2).2)
def allTo(l:List Int)(b:Bd):Nat->Int×Bd
 | 0=>(1,b)
 | i+1=>and (allTo l b i).1 (l.getD i 0) (allTo l b i).2
def equal(x y:List Int)(b:Bd):Int×Bd:=allTo (eqTo x y b x.length).1 (eqTo x y b x.length).2 (eqTo x y b x.length).1.length
def below(x y:List Int)(b:Bd):Int×Bd:=(-(sum x (notw y) 1 b).1.2,(sum x (notw y) 1 b).2)
theorem aYg{x y:List Int}{b:Bd}{i:Nat}(h:(eqTo x y b i).2.full=false):b.full=false:=by
 induction i with
 | zero=>exact h
 | succ i ih=>exact ih (aDy h)
theorem aM8{l:List Int}{b:Bd}{i:Nat}(h:(allTo l b i).2.full=false):b.full=false:=by
 induction i with
 | zero=>exact h
 | succ i ih=>exact ih (aCk h)
theorem eqTo_len{x y:List Int}{b:Bd}{i:Nat}:(eqTo x y b i).1.length=i:=by
 induction i with
 | zero=>rfl
 | succ i ih=>simp[eqTo,ih]
theorem bDj{K:Nat}{b:Bd}{x y:List Int}(hb:Ok K b)(hx:Wd b x)(hy:Wd b y){i:Nat}(hi:i<=x.length)(hiy:i<=y.length)(hf:(eqTo x y b i).2.full=false):
 WSp K b (eqTo x y b i) i/\∀e j,j<i->bt (eqTo x y b i).2 e (eqTo x y b i).1 j=(bt b e x j == bt b e y j):=by
 induction i with
 | zero=>exact⟨⟨hb,Le.refl _,Wd.nil_ _,rfl⟩,fun e j hj=>by omega⟩
 | succ i ih=>
  obtain⟨⟨h1,h2,h3,h4⟩,h5⟩:=ih (by omega) (by omega) (aDy hf);have lx:=hx.at_ (i:=i) (by omega);have ly:=hy.at_ (i:=i) (by omega);obtain⟨g1,g2,g3,g4⟩:=aJ5 h1 (aAr lx h2.n) (aAr ly h2.n) hf;refine⟨⟨g1,h2.trans g2,(h3.up g2).snoc (aAm g3),eqTo_len⟩,fun e j hj=>?_⟩;have g5:=g4 e;simp only at g5;rw[h2.sem _ lx,h2.sem _ ly]at g5
  show bt _ e ((eqTo x y b i).1 ++ [_]) j=_
  rw[aM6,h4]
  by_cases e1:j<i
  ·rw[if_pos e1,<-h5 e j e1];exact bt_le g2 h3 (by rw[h4];exact e1) e
  ·obtain rfl:j=i:=by omega
   rw[if_neg e1];have e2:bt (xor (x.getD j 0) (y.getD j 0) (eqTo x y b j).2).2 e [-(xor (x.getD j 0) (y.getD j 0) (eqTo x y b j).2).1] (j-j)=lsem (xor (x.getD j 0) (y.getD j 0) (eqTo x y b j).2).2 (-(xor (x.getD j 0) (y.getD j 0) (eqTo x y b j).2).1) e:=by
    rw[zBG];rfl
   refine e2.trans ?_;rw[aAn _ (aAc g3),g5];unfold bt;cases lsem b (x.getD j 0) e <;> cases lsem b (y.getD j 0) e <;> rfl
theorem bA5{K:Nat}{b:Bd}{l:List Int}(hb:Ok K b)(hl:Wd b l){i:Nat}(hi:i<=l.length)(hf:(allTo l b i).2.full=false):
 Ok K (allTo l b i).2/\Le b (allTo l b i).2/\isLit (allTo l b i).2.n (allTo l b i).1=true/\∀e,lsem (allTo l b i).2 (allTo l b i).1 e=true↔∀j,j<i->bt b e l j=true:=by
 induction i with
 | zero=>exact⟨hb,Le.refl _,hb.lit1,fun e=>⟨fun _ j hj=>by omega,fun _=>hb.one e⟩⟩
 | succ i ih=>
  obtain⟨h1,h2,h3,h4⟩:=ih (by omega) (aCk hf);have lx:=hl.at_ (i:=i) (by omega);obtain⟨g1,g2,g3,g4⟩:=aGg h1 h3 (aAr lx h2.n) hf;refine⟨g1,h2.trans g2,g3,fun e=>?_⟩;have g5:=g4 e;simp only at g5
  show lsem (and (allTo l b i).1 (l.getD i 0) (allTo l b i).2).2 (and (allTo l b i).1 (l.getD i 0) (allTo l b i).2).1 e=true↔_
  rw[g5,Bool.and_eq_true,h4 e,h2.sem _ lx];constructor
  ·rintro⟨a,c⟩ j hj;rcases Nat.lt_or_ge j i with hji | hji
   ·exact a j hji
   ·obtain rfl:j=i:=by omega
    exact c
  ·intro h;exact⟨fun j hj=>h j (by omega),h i (by omega)⟩
theorem aM9{x y:List Int}{b:Bd}(h:(equal x y b).2.full=false):b.full=false:=aYg (aM8 h)
theorem aRf{K:Nat}{b:Bd}{x y:List Int}(hb:Ok K b)(hx:Wd b x)(hy:Wd b y)(hl:x.length=y.length):Sp K b (equal x y b) (fun e=>decide (wv b e x=wv b e y)):=by
 intro hf;obtain⟨⟨h1,h2,h3,h4⟩,h5⟩:=bDj hb hx hy (zBJ _) (by omega) (aM8 hf);obtain⟨g1,g2,g3,g4⟩:=bA5 h1 h3 (zBJ _) hf;refine⟨g1,h2.trans g2,g3,fun e=>?_⟩
 show lsem (equal x y b).2 (equal x y b).1 e=decide (wv b e x=wv b e y)
 rw[Bool.eq_iff_iff,decide_eq_true_iff];refine(g4 e).trans ?_;rw[h4];constructor
 ·intro h;refine wv_eq hl fun i hi=>?_
  have:=h i hi;rw[h5 e i hi]at this;simpa using this
 ·intro h j hj;rw[h5 e j hj];have e1:=aAx b e x j;have e2:=aAx b e y j;rw[<-h,<-hl]at e2;have e3:=e1.symm.trans e2;simpa[hj]using e3
theorem aGt{x y:List Int}{b:Bd}(h:(below x y b).2.full=false):b.full=false:=aE5 h
theorem aD0{K:Nat}{b:Bd}{x y:List Int}(hb:Ok K b)(hx:Wd b x)(hy:Wd b y)(hl:x.length=y.length):Sp K b (below x y b) (fun e=>decide (wv b e x<wv b e y)):=by
 intro hf;obtain⟨⟨h1,h2,h3,h4,h5⟩,h6⟩:=aIb hb hb.lit1 hx (aK7 hy) (by rw[aBy];exact hl) hf;refine⟨h1,h2,aAm h5,fun e=>?_⟩;have k1:=h6 e;have k2:=aG7 hy e;rw[hb.one]at k1;have e1:bit true=1:=rfl;rw[e1]at k1;have k3:=wv_lt (sum x (notw y) 1 b).2 e (sum x (notw y) 1 b).1.1;rw[h4]at k3
 show lsem (sum x (notw y) 1 b).2 (-(sum x (notw y) 1 b).1.2) e=decide (wv b e x<wv b e y)
 rw[aAn _ (aAc h5)];rw[<-hl]at k2;have hX:=wv_lt b e x;cases hc:lsem (sum x (notw y) 1 b).2 (sum x (notw y) 1 b).1.2 e
 ·rw[hc]at k1;have e0:bit false=0:=rfl;rw[e0]at k1;simp;omega
 ·rw[hc,e1]at k1;simp;omega
end Go.Proofs.YtchdbhggbdcapaaGreat.C
end
