/- Part. -/
import Derived.Test.YtchdbhggbdcapaaGreatSuLX
import Derived.Test.YtchdbhggbdcapaaGreatSu04
set_option linter.unusedVariables false
set_option linter.unusedSimpArgs false
set_option maxRecDepth 100000
set_option maxHeartbeats 16000000
section
namespace Go.Proofs.YtchdbhggbdcapaaGreat.C
open S
open T (Nd)
def extV(k n m x:Int):Int:=if k=16 then x else if k=17 then B.sg n x % B.pw m else x % B.pw m
def atV(vs:List Int)(x:Nd)(i:Nat):Int:=vs.getD (x.args.getD i 0).toNat 0
def aCl(t:List Nd)(vs env:List Int)(x:Nd):Int:=
 if x.op=0 then x.imm
 else if x.op=33 then env.getD x.imm.toNat 0
 else if x.op=14 then(if cmpV x.imm (T.wd t x 0) (atV vs x 0) (atV vs x 1)=true then 1 else 0)
 else if x.op=15 then atV vs x (2-atV vs x 0).toNat
 else if 16<=x.op then extV x.op (T.wd t x 0) x.w (atV vs x 0)
 else B.full x.op x.w (atV vs x 0) (atV vs x 1)
def valsTo(t:List Nd)(env:List Int):Nat->List Int
 | 0=> []
 | j+1=>valsTo t env j ++ [aCl t (valsTo t env j) env (t.getD j default)]
theorem valsTo_len(t:List Nd)(env:List Int)(j:Nat):(valsTo t env j).length=j:=by
 induction j with
 | zero=>rfl
 | succ j ih=>simp[valsTo,ih]
def aB6(w:Nat)(imm:Int):List Int:=(List.range w).map fun i=>if imm.toNat.testBit i=true then 1 else -1
def arg(ws:List (List Int))(x:Nd)(i:Nat):List Int:=ws.getD (x.args.getD i 0).toNat []
def node(vars ws:List (List Int))(x:Nd)(b:Bd):List Int×Bd:=
 if x.op=0 then(aB6 x.w.toNat x.imm,b)
 else if x.op=33 then(vars.getD x.imm.toNat [],b)
 else if x.op=14 then([(cmpC x.imm (arg ws x 0) (arg ws x 1) b).1],(cmpC x.imm (arg ws x 0) (arg ws x 1) b).2)
 else if x.op=15 then picks ((arg ws x 0).getD 0 0) (arg ws x 1) (arg ws x 2) b
 else if x.op=16 then(arg ws x 0 ++ rep (x.w.toNat- (arg ws x 0).length) (-1),b)
 else if x.op=17 then(arg ws x 0 ++ rep (x.w.toNat- (arg ws x 0).length) (lastL (arg ws x 0)),b)
 else if x.op=18 then((arg ws x 0).take x.w.toNat,b)
 else arith x.op (arg ws x 0) (arg ws x 1) b
theorem aYm{vars ws:List (List Int)}{x:Nd}{b:Bd}(h:(node vars ws x b).2.full=false):b.full=false:=by
 unfold node at h;split at h
 ·exact h
 split at h
 ·exact h
 split at h
 ·exact aYj h
 split at h
 ·exact aCy h
 split at h
 ·exact h
 split at h
 ·exact h
 split at h
 ·exact h
 ·exact aWg h
theorem aYn{K:Nat}{b:Bd}(hb:Ok K b)(w:Nat)(imm:Int)(h0:0<=imm)(h1:imm<B.pw (w:Int)):Wd b (aB6 w imm)/\(aB6 w imm).length=w/\∀e,(wv b e (aB6 w imm):Int)=imm:=by
 refine⟨fun l hl=>?_,by simp[aB6],fun e=>?_⟩
 ·obtain⟨i,_,rfl⟩:=zBU.1 hl;split
  ·exact hb.lit1
  ·exact aAm hb.lit1
 ·have hv:wv b e (aB6 w imm)=imm.toNat:=by
   apply Nat.eq_of_testBit_eq;intro j;rw[aAx,show(aB6 w imm).length=w by simp[aB6]]
   by_cases hj:j<w
   ·have:bt b e (aB6 w imm) j=imm.toNat.testBit j:=by
     unfold bt aB6;simp only[List.getD,zAW,List.getElem?_range hj,Option.map_some,Option.getD_some];cases hc:imm.toNat.testBit j
     ·rw[if_neg (by decide),hb.no]
     ·rw[if_pos rfl,hb.one]
    rw[this];simp[hj]
   ·rw[pw_of]at h1;have h2:imm.toNat<2 ^ w:=by omega
    have h3:2 ^ w<=2 ^ j:=zAJ (by decide) (by omega);rw[Nat.testBit_lt_two_pow (zAL h2 h3)];simp[hj]
  rw[hv];omega
def WsOk(b:Bd)(t:List Nd)(ws:List (List Int))(i:Nat)(v:E->Int):Prop:=
 ∀x,t[i]? =some x->Wd b (ws.getD i [])/\((ws.getD i []).length:Int)=x.w/\∀e,(wv b e (ws.getD i []):Int)=v e
theorem WsOk.up{b b':Bd}{t:List Nd}{ws:List (List Int)}{i:Nat}{v:E->Int}(h:WsOk b t ws i v)(hl:Le b b'):WsOk b' t ws i v:=fun x hx=>by
 obtain⟨h1,h2,h3⟩:=h x hx;exact⟨h1.up hl,h2,fun e=>by rw[wv_le hl h1];exact h3 e⟩
theorem bDn{K:Nat}{b:Bd}{t:List Nd}{vars ws:List (List Int)}{k:Nat}{x:Nd}{vs env:E->List Int}(hb:Ok K b)(hx:t[k]? =some x)(hS:∀i y,t[i]? =some y->T.aAq true i y=true)(hty:T.typed t x=true)(hi:0<=x.imm)(hk:k<t.length)
 (hw:∀a∈x.args,WsOk b t ws a.toNat (fun e=>(vs e).getD a.toNat 0)) (hv:x.op=33->Wd b (vars.getD x.imm.toNat [])/\((vars.getD x.imm.toNat []).length:Int)=x.w/\∀e,(wv b e (vars.getD x.imm.toNat []):Int)=(env e).getD x.imm.toNat 0)
 (hf:(node vars ws x b).2.full=false):
 Ok K (node vars ws x b).2/\Le b (node vars ws x b).2/\Wd (node vars ws x b).2 (node vars ws x b).1/\((node vars ws x b).1.length:Int)=x.w/\∀e,(wv (node vars ws x b).2 e (node vars ws x b).1:Int)=aCl t (vs e) (env e) x:=by
 obtain⟨a1,a2,a3,a4,a5,a6⟩:=T.aAo (hS _ _ hx);obtain⟨w,hwn⟩:∃w:Nat,x.w=(w:Int):=⟨x.w.toNat,by omega⟩;have hwt:x.w.toNat=w:=by omega
 have harg:∀i,i<x.args.length->Wd b (arg ws x i)/\((arg ws x i).length:Int)=T.wd t x i/\(∀e,(wv b e (arg ws x i):Int)=atV (vs e) x i)/\1<=T.wd t x i/\T.wd t x i<=32:=by
  intro i hil;have hm:x.args.getD i 0∈x.args:=by
   rw[List.getD,zAB hil];exact zBM hil
  have hb2:=a6 _ hm;have hlt:(x.args.getD i 0).toNat<t.length:=by omega
  obtain⟨g1,g2,g3⟩:=hw _ hm _ (zAB hlt);have e1:T.wd t x i=t[(x.args.getD i 0).toNat].w:=by
   unfold T.wd;rw[List.getD,zAB hlt];rfl
  have hpos:1<=(t[(x.args.getD i 0).toNat]).w/\(t[(x.args.getD i 0).toNat]).w<=32:=by
   obtain⟨_,_,c3,c4,_,_⟩:=T.aAo (hS _ _ (zAB hlt));exact⟨c3,c4⟩
  exact⟨g1,by rw[e1];exact g2,g3,by rw[e1];exact hpos.1,by rw[e1];exact hpos.2⟩
 by_cases h0:x.op=0
 ·have hn:node vars ws x b=(aB6 w x.imm,b):=by unfold node;rw[if_pos h0,hwt]
  rw[hn];unfold T.immOk at a5;rw[if_pos h0]at a5;have hlt:=(B.aG0.1 a5).2.2;rw[hwn]at hlt;obtain⟨c1,c2,c3⟩:=aYn hb w x.imm hi hlt;refine⟨hb,Le.refl _,c1,by rw[c2,hwn],fun e=>?_⟩;unfold aCl;rw[if_pos h0];exact c3 e
 by_cases h33:x.op=33
 ·have hn:node vars ws x b=(vars.getD x.imm.toNat [],b):=by unfold node;rw[if_neg h0,if_pos h33]
  rw[hn];obtain⟨c1,c2,c3⟩:=hv h33;refine⟨hb,Le.refl _,c1,c2,fun e=>?_⟩;unfold aCl;rw[if_neg h0,if_pos h33];exact c3 e
 by_cases h14:x.op=14
 ·have hn:node vars ws x b=([(cmpC x.imm (arg ws x 0) (arg ws x 1) b).1],(cmpC x.imm (arg ws x 0) (arg ws x 1) b).2):=by unfold node;rw[if_neg h0,if_neg h33,if_pos h14]
  have hval:∀e,aCl t (vs e) (env e) x=if cmpV x.imm (T.wd t x 0) (atV (vs e) x 0) (atV (vs e) x 1)=true then 1 else 0:=fun e=>by
   unfold aCl;rw[if_neg h0,if_neg h33,if_pos h14]
  rw[hn]at hf⊢;have hal:x.args.length=2:=by
   unfold T.ar at a1;rw[h14]at a1;simp at a1;omega
  have hw1:x.w=1:=by
   have:=hS _ _ hx;unfold T.aAq at this;simp only[Bool.and_eq_true,Bool.or_eq_true,zBQ,Bool.not_eq_true',decide_eq_false_iff_not]at this;rcases this.1.2 with h | h
   ·exact absurd h14 h
   ·exact h
  have him:x.imm<=9:=by
   unfold T.immOk at a5;rw[if_neg h0,if_neg h33,if_pos h14]at a5;simpa using a5
  have htw:T.wd t x 0=T.wd t x 1:=by
   unfold T.typed at hty;rw[h14]at hty;simpa using hty
  obtain⟨p1,p2,p3,p4,p5⟩:=harg 0 (by omega);obtain⟨q1,q2,q3,q4,q5⟩:=harg 1 (by omega);obtain⟨c1,c2,c3,c4⟩:=bEq (K:=K) hb p1 q1 (by omega) (by omega) hi him hf;refine⟨c1,c2,(Wd.nil_ _).cons c3,by rw[hw1];rfl,fun e=>?_⟩;have c5:=c4 e;rw[p2]at c5;simp only at c5;rw[p3 e,q3 e]at c5;rw[hval e,wv,c5,wv];cases cmpV x.imm (T.wd t x 0) (atV (vs e) x 0) (atV (vs e) x 1) <;> rfl
 by_cases h15:x.op=15
 ·have hn:node vars ws x b=picks ((arg ws x 0).getD 0 0) (arg ws x 1) (arg ws x 2) b:=by unfold node;rw[if_neg h0,if_neg h33,if_neg h14,if_pos h15]
  have hval:∀e,aCl t (vs e) (env e) x=atV (vs e) x (2-atV (vs e) x 0).toNat:=fun e=>by
   unfold aCl;rw[if_neg h0,if_neg h33,if_neg h14,if_pos h15]
  rw[hn]at hf⊢;have hal:x.args.length=3:=by
   unfold T.ar at a1;rw[h15]at a1;simp at a1;omega
  have ht3:T.wd t x 0=1/\T.wd t x 1=x.w/\T.wd t x 2=x.w:=by
   unfold T.typed at hty;rw[h15]at hty;simp at hty;exact⟨hty.1.1,hty.1.2,hty.2⟩
  obtain⟨o1,o2,o3,o4,o5⟩:=harg 0 (by omega);obtain⟨p1,p2,p3,p4,p5⟩:=harg 1 (by omega);obtain⟨q1,q2,q3,q4,q5⟩:=harg 2 (by omega);have ol:(arg ws x 0).length=1:=by omega
  obtain⟨⟨c1,c2,c3,c4⟩,_,c6⟩:=aHi hb (o1.at_ (by omega)) p1 q1 (by omega) hf;refine⟨c1,c2,c3,by omega,fun e=>?_⟩;rw[c6 e,hval e];have hc:wv b e (arg ws x 0)=bit (lsem b ((arg ws x 0).getD 0 0) e):=by
   obtain⟨l,hl⟩:=List.length_eq_one_iff.1 ol;rw[hl];simp[wv]
  have hc2:=o3 e;rw[hc]at hc2;cases hcc:lsem b ((arg ws x 0).getD 0 0) e
  ·rw[hcc]at hc2;rw[if_neg (by decide),<-hc2,show(2- ((bit false:Nat):Int)).toNat=2 from rfl];exact q3 e
  ·rw[hcc]at hc2;rw[if_pos rfl,<-hc2,show(2- ((bit true:Nat):Int)).toNat=1 from rfl];exact p3 e
 have hops:(16<=x.op/\x.op<=18)\/(1<=x.op/\x.op<=13):=by
  have h9:=a2;unfold T.ar at h9;split at h9 <;> first | omega |(split at h9 <;> first | omega |(split at h9 <;> first | omega |(split at h9 <;> omega)))
 rcases hops with⟨h16,h18⟩ |⟨h1,h13⟩
 ·have hal:x.args.length=1:=by
   have e1:T.ar x.op=1:=by
    unfold T.ar;rw[if_neg (by omega),if_neg (by omega),if_neg (by omega),if_pos ⟨h16,h18⟩]
   omega
  have hval:∀e,aCl t (vs e) (env e) x=extV x.op (T.wd t x 0) x.w (atV (vs e) x 0):=fun e=>by
   unfold aCl;rw[if_neg h0,if_neg h33,if_neg h14,if_neg h15,if_pos h16]
  obtain⟨p1,p2,p3,p4,p5⟩:=harg 0 (by omega);have hp3:=fun e=>p3 e
  rcases(show x.op=16\/x.op=17\/x.op=18 by omega)with h | h | h
  ·have hn:node vars ws x b=(arg ws x 0 ++ rep (x.w.toNat- (arg ws x 0).length) (-1),b):=by unfold node;rw[if_neg h0,if_neg h33,if_neg h14,if_neg h15,if_pos h]
   have ht2:T.wd t x 0<x.w:=by
    unfold T.typed at hty;rw[h]at hty;simpa using hty
   rw[hn];refine⟨hb,Le.refl _,p1.append (Wd.rep (aAm hb.lit1)),by simp[rep];omega,fun e=>?_⟩
   show(wv b e (arg ws x 0 ++ List.replicate _ (-1)):Int)=_
   rw[hval e,aM5,aJ6,hb.no,h,show bit false=0 from rfl,Nat.zero_mul,Nat.mul_zero,zBI,p3 e];rfl
  ·have hn:node vars ws x b=(arg ws x 0 ++ rep (x.w.toNat- (arg ws x 0).length) (lastL (arg ws x 0)),b):=by unfold node;rw[if_neg h0,if_neg h33,if_neg h14,if_neg h15,if_neg (by omega),if_pos h]
   have ht2:T.wd t x 0<x.w:=by
    unfold T.typed at hty;rw[h]at hty;simpa using hty
   rw[hn];refine⟨hb,Le.refl _,p1.append (Wd.rep (aDz p1 (by omega))),by simp[rep];omega,fun e=>?_⟩
   show(wv b e (arg ws x 0 ++ List.replicate (x.w.toNat- (arg ws x 0).length) (lastL (arg ws x 0))):Int)=_
   obtain⟨m,hm⟩:∃m,(arg ws x 0).length=m+1:=⟨(arg ws x 0).length-1,by omega⟩;have hsg:=sg_of b e hm;rw[p2,p3 e]at hsg;have hlt:=wv_lt b e (arg ws x 0);have hp3e:=p3 e;rw[hval e,aM5,aJ6,h,hwt]
   show _=B.sg (T.wd t x 0) (atV (vs e) x 0) % B.pw x.w
   rw[hsg,hwn,pw_of];have hle:2 ^ (arg ws x 0).length<=2 ^ w:=zAJ (by decide) (by omega);rw[hm]at hlt hle⊢;cases hc:lsem b (lastL (arg ws x 0)) e
   ·rw[if_neg (by decide),show bit false=0 from rfl,Nat.zero_mul,Nat.mul_zero,zBI,Int.emod_eq_of_lt (by omega) (by omega),hp3e]
   ·rw[if_pos rfl,show bit true=1 from rfl,Nat.one_mul,Nat.mul_sub,<-Nat.pow_add,show m+1+(w- (m+1))=w by omega,Nat.mul_one];generalize hP:2 ^ (m+1)=P at hlt hle⊢;generalize hQ:2 ^ w=Q at hle⊢;rw[<-Int.add_emod_right,Int.emod_eq_of_lt (by omega) (by omega)];omega
  ·have hn:node vars ws x b=((arg ws x 0).take x.w.toNat,b):=by unfold node;rw[if_neg h0,if_neg h33,if_neg h14,if_neg h15,if_neg (by omega),if_neg (by omega),if_pos h]
   have ht2:x.w<T.wd t x 0:=by
    unfold T.typed at hty;rw[h]at hty;simpa using hty
   rw[hn];refine⟨hb,Le.refl _,p1.take _,by rw[zAZ];omega,fun e=>?_⟩;rw[hval e,aEr,h,hwt]
   show _=atV (vs e) x 0 % B.pw x.w
   rw[<-p3 e,hwn,pw_of];simp
 ·have hn:node vars ws x b=arith x.op (arg ws x 0) (arg ws x 1) b:=by unfold node;rw[if_neg h0,if_neg h33,if_neg h14,if_neg h15,if_neg (by omega),if_neg (by omega),if_neg (by omega)]
  have hval:∀e,aCl t (vs e) (env e) x=B.full x.op x.w (atV (vs e) x 0) (atV (vs e) x 1):=fun e=>by
   unfold aCl;rw[if_neg h0,if_neg h33,if_neg h14,if_neg h15,if_neg (by omega)]
  rw[hn]at hf⊢;have hal:x.args.length=2:=by
   have e1:T.ar x.op=2:=by
    unfold T.ar;rw[if_neg (by omega),if_pos ⟨h1,by omega⟩]
   omega
  have ht2:T.wd t x 0=x.w/\T.wd t x 1=x.w:=by
   unfold T.typed at hty;rw[if_pos ⟨h1,h13⟩]at hty;simpa using hty
  obtain⟨p1,p2,p3,p4,p5⟩:=harg 0 (by omega);obtain⟨q1,q2,q3,q4,q5⟩:=harg 1 (by omega);obtain⟨⟨c1,c2,c3,c4⟩,c5⟩:=bBc hb p1 q1 (by omega) (by omega) (by omega) h1 h13 hf;refine⟨c1,c2,c3,by omega,fun e=>?_⟩;rw[c5 e,hval e,p3 e,q3 e,p2,ht2.1]
end Go.Proofs.YtchdbhggbdcapaaGreat.C
end
section
namespace Go.Proofs.YtchdbhggbdcapaaGreat.T
def aGi(t:List Nd):Prop:=∀y∈t,0<=y.imm/\(y.op=33->y.imm<4/\1<=y.w)
theorem aGi.take{t:List Nd}(h:aGi t)(j:Nat):aGi (t.take j):=fun y hy=>h y (List.mem_of_mem_take hy)
theorem aFr{t:List Nd}{v:Nat}{z:Int}:(aAa t)[v]? =some z->z≠0->∃(i:Nat) (y:Nd),t[i]? =some y/\y.op=33/\y.imm.toNat=v/\y.w=z:=by
 refine aOi (P:=fun t=>(aAa t)[v]? =some z->z≠0->∃(i:Nat) (y:Nd),t[i]? =some y/\y.op=33/\y.imm.toNat=v/\y.w=z) (fun h hz=>?_) (fun t x ih h hz=>?_) t
 ·exfalso
  have hv:v<4:=(zAA.1 h).1;have:v=0\/v=1\/v=2\/v=3:=by omega
  rcases this with rfl | rfl | rfl | rfl <;> exact hz (zAH h).symm
 ·have go:(aAa t)[v]? =some z->∃(i:Nat) (y:Nd),(t ++ [x])[i]? =some y/\y.op=33/\y.imm.toNat=v/\y.w=z:=fun h'=>by
   obtain⟨i,y,h1,h2⟩:=ih h' hz;exact⟨i,y,by rw[zAE (zAA.1 h1).1];exact h1,h2⟩
  rw[aCo]at h;split at h
  ·rename_i hx
   by_cases he:x.imm.toNat=v
   ·have hl:=aA9 t;have hv:v<4:=by have:=(zAA.1 h).1;rw[zBC]at this;omega
    rw[he,List.getElem?_set_self (by omega)]at h;exact⟨t.length,x,by simp,hx,he,zAH h⟩
   ·rw[List.getElem?_set_ne he]at h;exact go h
  ·exact go h
theorem aH2{t:List Nd}{x:Nd}(h:aAw t=false)(hx:x.op≠33):aAw (t ++ [x])=false:=by
 rw[aB9]at h⊢;intro i j a b hij ha hb
 by_cases hj:j<t.length
 ·rw[zAE hj]at hb;rw[zAE (by omega)]at ha;exact h i j a b hij ha hb
 ·have:j=t.length:=by have:=(zAA.1 hb).1;simp at this;omega
  subst this;simp at hb;subst hb;unfold clash;simp[hx]
theorem aWh{t:List Nd}{x:Nd}(h:aAw t=false)(ht:aGi t)(hx:x.op=33)(h0:0<=x.imm){v:Int}(hv:(aAa t)[x.imm.toNat]? =some v)(hg:v=0\/v=x.w):aAw (t ++ [x])=false:=by
 have h':=h;rw[aB9]at h⊢;intro i j a b hij ha hb
 by_cases hj:j<t.length
 ·rw[zAE hj]at hb;rw[zAE (by omega)]at ha;exact h i j a b hij ha hb
 ·have:j=t.length:=by have:=(zAA.1 hb).1;simp at this;omega
  subst this;simp at hb;subst hb;rw[zAE hij]at ha;unfold clash
  by_cases ho:a.op=33
  ·by_cases he:a.imm=x.imm
   ·have hm:=ht a (zAC ha);have:=aHt h' (fun y hy=>(ht y hy).1) ha ho (hm.2 ho).1;rw[he,hv]at this;have hw:=zAH this;have:=(hm.2 ho).2;have:a.w=x.w:=by omega
    simp[this]
   ·simp[he]
  ·simp[ho]
theorem aYo{t:List Nd}{x:Nd}(ht:aGi t)(hx:x.op=33)(h0:0<=x.imm){v:Int}(hv:(aAa t)[x.imm.toNat]? =some v)(h1:v≠0)(h2:v≠x.w):aAw (t ++ [x])=true:=by
 cases e:aAw (t ++ [x])
 ·exfalso
  obtain⟨i,y,hy,ho,hi,hw⟩:=aFr hv h1;have hlt:=(zAA.1 hy).1;have:=aB9.1 e i t.length y x hlt (by rw[zAE hlt];exact hy) (by simp);have hy0:=(ht y (zAC hy)).1;have he:y.imm=x.imm:=by omega
  unfold clash at this;simp[ho,hx,he,hw]at this;exact h2 this
 ·rfl
theorem aRp{t:List Nd}{j:Nat}(h:aAw (t.take j)=true):aAw t=true:=by
 cases e:aAw t
 ·exfalso
  have:aAw (t.take j)=false:=aB9.2 fun i k a b hik ha hb=>by
   rw[zBB]at ha hb;split at ha
   ·split at hb
    ·exact aB9.1 e i k a b hik ha hb
    ·cases hb
   ·cases ha
  rw[h]at this;cases this
 ·rfl
theorem aFc{z:Bool}{t:List Nd}(h:∀i x,t[i]? =some x->aAq z i x=true)(h0:∀y∈t,0<=y.imm):aGi t:=fun y hy=>by
 refine⟨h0 y hy,fun ho=>?_⟩;obtain⟨i,hi⟩:=List.mem_iff_getElem?.1 hy;obtain⟨_,_,h3,_,h5,_⟩:=aAo (h i y hi);unfold immOk at h5;rw[if_neg (by omega),if_pos ho]at h5;exact⟨by simpa using h5,h3⟩
end Go.Proofs.YtchdbhggbdcapaaGreat.T
end
section
namespace Go.Proofs.YtchdbhggbdcapaaGreat.C
open S
open T (Nd)
def inB(K:Nat):Bd:=⟨K+1, [[1]], [],false,(fun _=>true) ::(List.range K).map fun i=>fun e=>e (i+2)⟩
theorem bBd{K:Nat}(h:K<3999):fresh (fun e=>e (K+2)) (inB K)=(((K+2:Nat):Int),inB (K+1)):=by
 unfold fresh inB;rw[if_neg (by simp;omega)];simp only[List.range_succ,zBS,List.map_cons,List.map_nil,List.cons_append,Prod.mk.injEq,and_true];omega
theorem aId{K v:Nat}(h1:2<=v)(h2:v<=K+1)(e:E):lsem (inB K) (v:Int) e=e v:=by
 unfold lsem inB;rw[if_pos (by omega)];simp only[List.getD];obtain⟨j,rfl⟩:∃j,v=j+2:=⟨v-2,by omega⟩;rw[show(((j+2:Nat):Int)).toNat-1=j+1 by omega,List.getElem?_cons_succ,zAW,List.getElem?_range (by omega)];rfl
theorem in_ok{K:Nat}(h:K<=3999):Ok K (inB K):=by
 have hone:∀e,lsem (inB K) 1 e=true:=fun e=>rfl
 refine⟨by simp[inB],by simp[inB],by simp[inB],by simp[inB];omega,hone,fun c hc=>?_,fun e c hc=>?_,fun e l hl hv=>?_,fun v h1 h2 e=>aId h1 h2 e,fun q o hq=>?_,rfl,by simp[inB]⟩
 ·simp[inB]at hc;subst hc;have h1:isLit ((K+1:Nat):Int) 1=true:=by simp only[isLit,zBQ];omega
  show isClause ((K+1:Nat):Int) [1]=true
  unfold isClause;simp only[List.all_cons,h1,List.all_nil,Bool.and_true]
 ·simp[inB]at hc;subst hc;exact⟨1,by simp,hone e⟩
 ·have hl': -(((K+1:Nat):Int))<=l/\l<=((K+1:Nat):Int)/\l≠0:=by
   have:isLit ((K+1:Nat):Int) l=true:=hl;simpa[isLit]using this
  by_cases e1:l=1
  ·subst e1;exact .unit_ (c:= [1]) (by simp[inB]) (by simp) fun m hm hne=>absurd (zBD.1 hm) hne
  by_cases e2:l= -1
  ·subst e2;rw[aAn _ (by decide),hone]at hv;cases hv
  refine .given_ ?_;unfold given;rw[zBU];refine⟨l.natAbs-2,by rw[zBR];omega,?_⟩;rw[show l.natAbs-2+2=l.natAbs by omega];rcases Int.lt_or_le l 0 with hneg | hpos
  ·obtain⟨v,rfl⟩:∃v:Nat,l= -(v:Int):=⟨l.natAbs,by omega⟩;rw[aAn _ (by omega),aId (by omega) (by omega)]at hv;rw[show(-(v:Int)).natAbs=v by omega,if_neg (by simpa using hv)]
  ·obtain⟨v,rfl⟩:∃v:Nat,l=(v:Int):=⟨l.natAbs,by omega⟩;rw[aId (by omega) (by omega)]at hv;rw[show((v:Int)).natAbs=v by omega,if_pos hv]
 ·simp[inB,look]at hq
def aAz(K w:Nat):List Int:=(List.range w).map fun j=>((K+2+j:Nat):Int)
theorem aYp{M K w:Nat}(h:K+w<=M):Wd (inB M) (aAz K w)/\(aAz K w).length=w:=by
 refine⟨fun l hl=>?_,by simp[aAz]⟩;obtain⟨j,hj,rfl⟩:=zBU.1 hl;rw[zBR]at hj
 show isLit ((M+1:Nat):Int) _=true
 simp only[isLit,zBQ];omega
def aAj:List Int->Nat->List (List Int)
 | [],_=> []
 | w :: r,K=>aAz K w.toNat :: aAj r (K+w.toNat)
def total(l:List Int):Nat:=(l.map Int.toNat).sum
theorem aCc(l:List Int)(K:Nat):(aAj l K).length=l.length:=by
 induction l generalizing K with
 | nil=>rfl
 | cons w r ih=>simp[aAj,ih]
theorem aC6(l:List Int)(K v:Nat)(hv:v<l.length):(aAj l K).getD v []=aAz (K+total (l.take v)) (l.getD v 0).toNat:=by
 induction l generalizing K v with
 | nil=>simp at hv
 | cons w r ih=>
  cases v with
  | zero=>simp[aAj,total]
  | succ v=>
   have:=ih (K+w.toNat) v (by simpa using hv);simp only[aAj,List.getD_cons_succ,this,List.take_succ_cons]
   congr 1
   simp[total];omega
theorem aCp(l:List Int)(v:Nat)(hv:v<l.length):total (l.take v)+(l.getD v 0).toNat<=total l:=by
 have h1:l=l.take v ++(l.getD v 0) :: l.drop (v+1):=by
  rw[List.getD,zAB hv]
  show l=l.take v ++(l[v] :: l.drop (v+1))
  rw[<-List.drop_eq_getElem_cons hv,List.take_append_drop]
 have h2:total l=total (l.take v)+((l.getD v 0).toNat+total (l.drop (v+1))):=by
  conv=>lhs;rw[h1]
  simp[total]
 omega
def stepW(vars:List (List Int))(t:List Nd)(s:List (List Int)×Bd)(k:Nat):List (List Int)×Bd:=
 if(R.need t).getD k false=true/\s.2.full=false then(s.1.set k (node vars s.1 (t.getD k default) s.2).1,(node vars s.1 (t.getD k default) s.2).2)else s
def aAu(vars:List (List Int))(t:List Nd)(b:Bd):Nat->List (List Int)×Bd
 | 0=>(List.replicate t.length [],b)
 | k+1=>stepW vars t (aAu vars t b k) k
theorem aNb{vars:List (List Int)}{t:List Nd}{s:List (List Int)×Bd}{k:Nat}(h:(stepW vars t s k).2.full=false):s.2.full=false:=by
 unfold stepW at h;split at h
 ·exact aYm h
 ·exact h
theorem aLq(t:List Nd)(env:List Int)(j:Nat):valsTo t env (j+1)=valsTo t env j ++ [aCl t (valsTo t env j) env (t.getD j default)]:=rfl
theorem getD_setL{α:Type}(of:List α)(i j:Nat)(x d:α):(of.set i x).getD j d=if i=j/\i<of.length then x else of.getD j d:=by
 simp only[List.getD,List.getElem?_set]
 by_cases h:i=j
 ·subst h
  by_cases h2:i<of.length
  ·simp[h2]
  ·simp[h2]
 ·simp[h]
theorem aNc(t:List Nd)(env:List Int){i j j':Nat}(hi:i<j)(hj:j<=j'):(valsTo t env j').getD i 0=(valsTo t env j).getD i 0:=by
 induction j' with
 | zero=>omega
 | succ m ih=>
  by_cases e:j=m+1
  ·rw[e]
  ·rw[<-ih (by omega),aLq];simp only[List.getD];rw[zAE (by rw[valsTo_len];omega)]
theorem aYq(t:List Nd)(env:List Int)(k:Nat):(valsTo t env (k+1)).getD k 0=aCl t (valsTo t env k) env (t.getD k default):=by
 rw[aLq];generalize aCl t (valsTo t env k) env (t.getD k default)=v;simp only[List.getD];rw[zAF (by rw[valsTo_len];omega),valsTo_len,zBG];rfl
structure Tm(t:List Nd):Prop where
 ne:0<t.length
 sh:∀(i:Nat) (y:Nd),t[i]? =some y->T.aAq true i y=true
 ty:∀(i:Nat) (y:Nd),t[i]? =some y->T.typed t y=true
 im:∀y∈t,0<=y.imm
theorem Tm.ord{t:List Nd}(h:Tm t):T.Ord t:=by
 intro k x hx a ha;exact(T.aAo (h.sh k x hx)).2.2.2.2.2 a ha
theorem Tm.need{t:List Nd}(h:Tm t){k:Nat}{x:Nd}(hk:(R.need t).getD k false=true)(hx:t[k]? =some x){a:Int}(ha:a∈x.args):(R.need t).getD a.toNat false=true:=by
 rw[R.aQ7 h.ord h.ne]at hk⊢;exact .next hk hx ha
theorem Tm.root{t:List Nd}(h:Tm t):(R.need t).getD (t.length-1) false=true:=by
 rw[R.aQ7 h.ord h.ne];have h1:=R.From.here (p:=t) (la:= [((t.length:Int)-1)]) (a:=(t.length:Int)-1) (by simp);have h2:=h.ne
 rwa [show((t.length:Int)-1).toNat=t.length-1 by omega]at h1
theorem aWi{K:Nat}{b:Bd}{t:List Nd}{vars:List (List Int)}{env:E->List Int}(ht:Tm t)(hb:Ok K b)
 (hv:∀x∈t,x.op=33->Wd b (vars.getD x.imm.toNat [])/\((vars.getD x.imm.toNat []).length:Int)=x.w/\∀e,(wv b e (vars.getD x.imm.toNat []):Int)=(env e).getD x.imm.toNat 0) {j:Nat} (hj:j<=t.length) (hf:(aAu vars t b j).2.full=false):
 Ok K (aAu vars t b j).2/\Le b (aAu vars t b j).2/\(aAu vars t b j).1.length=t.length/\
 ∀i,i<j->(R.need t).getD i false=true->WsOk (aAu vars t b j).2 t (aAu vars t b j).1 i (fun e=>(valsTo t (env e) t.length).getD i 0):=by
 induction j with
 | zero=>exact⟨hb,Le.refl _,by simp[aAu],fun i hi=>by omega⟩
 | succ k ih=>
  have hf0:(stepW vars t (aAu vars t b k) k).2.full=false:=hf;obtain⟨h1,h2,h3,h4⟩:=ih (by omega) (aNb hf0);have hgo:aAu vars t b (k+1)=stepW vars t (aAu vars t b k) k:=rfl;rw[hgo];clear hgo hf ih;have hfs:=aNb hf0;generalize aAu vars t b k=s at*
  by_cases hn:(R.need t).getD k false=true
  ·have hst:stepW vars t s k=(s.1.set k (node vars s.1 (t.getD k default) s.2).1,(node vars s.1 (t.getD k default) s.2).2):=by
    unfold stepW;rw[if_pos ⟨hn,hfs⟩]
   rw[hst]at hf0⊢;have hx:t[k]? =some (t.getD k default):=by
    rw[List.getD,zAB (by omega)];rfl
   have hxm:=zAC hx;generalize t.getD k default=x at*;have hvv:=hv x hxm;obtain⟨c1,c2,c3,c4,c5⟩:=bDn (vs:=fun e=>valsTo t (env e) k) (env:=env) h1 hx ht.sh (ht.ty k x hx) (ht.im x hxm) (by omega) (fun a ha=>by
    have hb2:=(T.aAo (ht.sh k x hx)).2.2.2.2.2 a ha;have h5:=h4 a.toNat (by omega) (ht.need hn hx ha);intro y hy;obtain⟨g1,g2,g3⟩:=h5 y hy;exact⟨g1,g2,fun e=>(g3 e).trans (aNc t (env e) (i:=a.toNat) (j:=k) (j':=t.length) (by omega) (by omega))⟩) (fun h33=>by
    obtain⟨g1,g2,g3⟩:=hvv h33;exact⟨g1.up h2,g2,fun e=>by rw[wv_le h2 g1];exact g3 e⟩) hf0
   refine⟨c1,h2.trans c2,by simp[h3],fun i hi hni y hy=>?_⟩;have hget:(s.1.set k (node vars s.1 x s.2).1).getD i []=if k=i then(node vars s.1 x s.2).1 else s.1.getD i []:=by
    rw[getD_setL]
    by_cases e:k=i
    ·rw[if_pos ⟨e,by omega⟩,if_pos e]
    ·rw[if_neg (fun h=>e h.1),if_neg e]
   show Wd _ ((s.1.set k (node vars s.1 x s.2).1).getD i [])/\_/\∀e,(wv _ e ((s.1.set k (node vars s.1 x s.2).1).getD i []):Int)=_
   rw[hget]
   by_cases e:k=i
   ·subst e;rw[if_pos rfl];rw[hx]at hy;obtain rfl:=zAH hy;refine⟨c3,c4,fun e=>?_⟩;rw[c5 e,aNc t (env e) (i:=k) (j:=k+1) (by omega) (by omega),aYq]
    congr 1
    rw[List.getD,hx];rfl
   ·rw[if_neg e];exact(h4 i (by omega) hni).up c2 y hy
  ·have hst:stepW vars t s k=s:=by
    unfold stepW;rw[if_neg (fun h=>hn h.1)]
   rw[hst];refine⟨h1,h2,h3,fun i hi hni=>?_⟩
   by_cases e:i=k
   ·subst e;exact absurd hni hn
   ·exact h4 i (by omega) hni
def copy1(l:Int)(b:Bd):Bd:=clause [(fresh (fun e=>lsem b l e) b).1,-l] (clause [-(fresh (fun e=>lsem b l e) b).1,l] (fresh (fun e=>lsem b l e) b).2)
def aBs(ws:List Int)(b:Bd):Nat->Bd
 | 0=>b
 | i+1=>copy1 (ws.getD i 0) (aBs ws b i)
theorem aNd{l:Int}{b:Bd}(h:(copy1 l b).full=false):b.full=false/\b.n<4000/\copy1 l b={b with n:=b.n+1,g:=b.g ++ [fun e=>lsem b l e],cls:=b.cls ++ [[-((b.n:Int)+1),l], [(b.n:Int)+1,-l]]}/\(b.cls ++ [[-((b.n:Int)+1),l], [(b.n:Int)+1,-l]]).length<=23999:=by
 unfold copy1 at h⊢;obtain⟨h1,h2,h3⟩:=aH1 h;obtain⟨g1,g2,g3⟩:=aH1 h1;obtain⟨f1,f2,f3⟩:=aM4 g1;refine⟨f1,f2,?_,?_⟩
 ·rw[h2,g2,f3];simp
 ·rw[g2,f3]at h3;simp at h3⊢;omega
theorem bBe{K:Nat}{b:Bd}{l:Int}(hb:Ok K b)(hl:isLit b.n l=true)(hf:(copy1 l b).full=false):
 Ok K (copy1 l b)/\Le b (copy1 l b)/\(copy1 l b).n=b.n+1/\∀e,lsem (copy1 l b) ((b.n:Int)+1) e=lsem b l e:=by
 obtain⟨k1,k2,k3,k4⟩:=aNd hf;rw[k3];have hg:({b with n:=b.n+1,g:=b.g ++ [fun e=>lsem b l e],cls:=b.cls ++ [[-((b.n:Int)+1),l], [(b.n:Int)+1,-l]]}:Bd).g=b.g ++ [fun e=>lsem b l e]:=rfl;have hle:Le b {b with n:=b.n+1,g:=b.g ++ [fun e=>lsem b l e],cls:=b.cls ++ [[-((b.n:Int)+1),l], [(b.n:Int)+1,-l]]}:=⟨Nat.le_succ _,fun m hm e=>aQ9 hg hb.gl hm e⟩;have hnew:∀e,lsem {b with n:=b.n+1,g:=b.g ++ [fun e=>lsem b l e],cls:=b.cls ++ [[-((b.n:Int)+1),l], [(b.n:Int)+1,-l]]} ((b.n:Int)+1) e=lsem b l e:=fun e=>aRa hg hb.gl e
 have hlitn:isLit ((b.n+1:Nat):Int) ((b.n:Int)+1)=true:=by simp only[isLit,zBQ];omega
 have ll:=aAr hl (Nat.le_succ b.n);have hl0:=aAc hl;refine⟨⟨by simp[hb.gl],by show 1<=b.n+1;omega,by have:=hb.nk;show K+1<=b.n+1;omega,k2,fun e=>(hle.sem 1 hb.lit1 e).trans (hb.one e),fun c hc=>?_,fun e c hc=>?_,fun e m hm hv=>?_,fun v h1 h2 e=>?_,fun q o ho=>?_,hb.full,k4⟩,hle,rfl,hnew⟩
 ·rcases zBE.1 hc with hc | hc
  ·rw[isClause,zAD];exact fun x hx=>aAr (zAD.1 (hb.lits c hc) x hx) (Nat.le_succ _)
  ·simp only[zBF,List.not_mem_nil,or_false]at hc;rcases hc with rfl | rfl
   ·exact cl2 (aAm hlitn) ll
   ·exact cl2 hlitn (aAm ll)
 ·rcases zBE.1 hc with hc | hc
  ·obtain⟨m,hm,hv⟩:=hb.sat e c hc;exact⟨m,hm,by rw[hle.sem m (zAD.1 (hb.lits c hc) m hm) e];exact hv⟩
  ·have v1:=hnew e;have v2:=hle.sem l hl e;have v3:=hle.sem (-l) (aAm hl) e;rw[aAn b hl0]at v3;have v4:=aAn {b with n:=b.n+1,g:=b.g ++ [fun e=>lsem b l e],cls:=b.cls ++ [[-((b.n:Int)+1),l], [(b.n:Int)+1,-l]]} (l:=(b.n:Int)+1) (by omega) e;rw[v1]at v4;simp only[zBF,List.not_mem_nil,or_false]at hc;rcases hc with rfl | rfl
   ·simp only[zBF,List.not_mem_nil,or_false,exists_eq_or_imp,exists_eq_left];rw[v4,v2];cases lsem b l e <;> simp
   ·simp only[zBF,List.not_mem_nil,or_false,exists_eq_or_imp,exists_eq_left];rw[v1,v3];cases lsem b l e <;> simp
 ·have hold:∀m,isLit b.n m=true->lsem b m e=true->Der (b.cls ++ [[-((b.n:Int)+1),l], [(b.n:Int)+1,-l]]) (given K e) m:=fun m hm hv=>(hb.der e m hm hv).mono (fun c hc=>zAO _ hc) (fun _ h=>h)
  have hm': -((b.n:Int)+1)<=m/\m<=(b.n:Int)+1/\m≠0:=by
   have:isLit ((b.n+1:Nat):Int) m=true:=hm;simp only[isLit,zBQ]at this;omega
  by_cases e1:m=(b.n:Int)+1
  ·subst e1;refine .unit_ (c:= [(b.n:Int)+1,-l]) (by simp) (by simp) fun x hx hne=>?_
   simp only[zBF,List.not_mem_nil,or_false]at hx;rcases hx with rfl | rfl
   ·exact absurd rfl hne
   ·rw[Int.neg_neg];exact hold l hl ((hnew e).symm.trans hv)
  ·by_cases e2:m= -((b.n:Int)+1)
   ·subst e2;rw[aAn _ (by omega),hnew]at hv;refine .unit_ (c:= [-((b.n:Int)+1),l]) (by simp) (by simp) fun x hx hne=>?_
    simp only[zBF,List.not_mem_nil,or_false]at hx;rcases hx with rfl | rfl
    ·exact absurd rfl hne
    ·exact hold (-x) (aAm hl) (by rw[aAn b hl0];exact hv)
   ·have hmb:isLit b.n m=true:=by simp only[isLit,zBQ];omega
    exact hold m hmb (by rw[<-hle.sem m hmb e];exact hv)
 ·have hv:isLit b.n (v:Int)=true:=by have:=hb.nk;simp only[isLit,zBQ];omega
  exact(hle.sem v hv e).trans (hb.inp v h1 h2 e)
 ·obtain⟨h1,h2,h3,h4,h5,h6⟩:=hb.kn q o ho;refine⟨aAr h1 (Nat.le_succ _),h2,aAr h3 (Nat.le_succ _),aAr h4 (Nat.le_succ _),fun h0 e=>?_,fun h0 e=>?_⟩
  ·rw[hle.sem _ h1,hle.sem _ h3,hle.sem _ h4];exact h5 h0 e
  ·rw[hle.sem _ h1,hle.sem _ h3,hle.sem _ h4];exact h6 h0 e
theorem aYr{K:Nat}{b:Bd}{ws:List Int}(hb:Ok K b)(hw:Wd b ws){i:Nat}(hi:i<=ws.length)(hf:(aBs ws b i).full=false):
 Ok K (aBs ws b i)/\Le b (aBs ws b i)/\(aBs ws b i).n=b.n+i/\∀e j,j<i->lsem (aBs ws b i) ((b.n+1+j:Nat):Int) e=bt b e ws j:=by
 induction i with
 | zero=>exact⟨hb,Le.refl _,rfl,fun e j hj=>by omega⟩
 | succ i ih=>
  have hf0:(copy1 (ws.getD i 0) (aBs ws b i)).full=false:=hf;obtain⟨h1,h2,h3,h4⟩:=ih (by omega) (aNd hf0).1;have lw:=hw.at_ (i:=i) (by omega);obtain⟨c1,c2,c3,c4⟩:=bBe h1 (aAr lw h2.n) hf0;refine⟨c1,h2.trans c2,by show(copy1 _ _).n=_;rw[c3,h3];rfl,fun e j hj=>?_⟩
  show lsem (copy1 (ws.getD i 0) (aBs ws b i)) _ e=_
  by_cases e1:j<i
  ·rw[c2.sem _ (by simp only[isLit,zBQ];rw[h3];omega)];exact h4 e j e1
  ·obtain rfl:j=i:=by omega
   have:=c4 e;rw[h3,h2.sem _ lw]at this;rw[<-show((b.n+j:Nat):Int)+1=((b.n+1+j:Nat):Int) by omega];exact this
structure Circ where
 b:Bd
 vars:List (List Int)
 root:Int
def words(t:List Nd):List (List Int)×Bd:=aAu (aAj (T.aAa t) 0) t (inB (total (T.aAa t))) t.length
def build(t:List Nd):Option Circ:=
 if(words t).2.full=true then none
 else if(aBs ((words t).1.getD (t.length-1) []) (words t).2 ((words t).1.getD (t.length-1) []).length).full=true then none
 else some ⟨aBs ((words t).1.getD (t.length-1) []) (words t).2 ((words t).1.getD (t.length-1) []).length,aAj (T.aAa t) 0,((words t).2.n:Int)+1⟩
def envOf(t:List Nd)(e:E):List Int:=(aAj (T.aAa t) 0).map fun w=>(wv (inB (total (T.aAa t))) e w:Int)
def aBw(t:List Nd):Nat:=(t.getD (t.length-1) default).w.toNat
theorem aCt{t:List Nd}(ht:Tm t):total (T.aAa t)<=128:=by
 have hl:=T.aA9 t;have hb:∀(v:Nat) (z:Int),(T.aAa t)[v]? =some z->z.toNat<=32:=by
  intro v z hz
  by_cases h0:z=0
  ·subst h0;decide
  ·obtain⟨i,y,h1,h2,h3,h4⟩:=T.aFr hz h0;have:=(T.aAo (ht.sh i y h1)).2.2.2.1;omega
 match hw:T.aAa t,hl with
 | [a,b,c,d],_=>
  have h0:=hb 0 a (by rw[hw];rfl);have h1:=hb 1 b (by rw[hw];rfl);have h2:=hb 2 c (by rw[hw];rfl);have h3:=hb 3 d (by rw[hw];rfl);simp[total];omega
structure Says(t:List Nd)(c:Circ):Prop where
 ok:Ok (total (T.aAa t)) c.b
 vars:c.vars=aAj (T.aAa t) 0
 r1:1<=c.root
 rn:c.root+aBw t=c.b.n+1
 inp:Le (inB (total (T.aAa t))) c.b
 val:∀e j,j<aBw t->lsem c.b (c.root+j) e=((valsTo t (envOf t e) t.length).getD (t.length-1) 0).toNat.testBit j
 word:∀e,0<=(valsTo t (envOf t e) t.length).getD (t.length-1) 0/\(valsTo t (envOf t e) t.length).getD (t.length-1) 0<((2 ^ aBw t:Nat):Int)
theorem aIm{t:List Nd}(ht:Tm t)(hcl:T.aAw t=false){c:Circ}(h:build t=some c):Says t c:=by
 unfold build at h;split at h
 ·cases h
 rename_i h1;split at h
 ·cases h
 rename_i h2;have hc:=(zAH h).symm;clear h;have hsm:=aCt ht;have hwl:=T.aA9 t;have hio:=in_ok (K:=total (T.aAa t)) (by omega);have hf1:(words t).2.full=false:=by simpa using h1
 have hf2:(aBs ((words t).1.getD (t.length-1) []) (words t).2 ((words t).1.getD (t.length-1) []).length).full=false:=by simpa using h2
 obtain⟨w1,w2,w3,w4⟩:=aWi (env:=envOf t) ht hio (fun x hx h33=>by
  obtain⟨i,hi⟩:=zAG hx;have him:=T.aAo (ht.sh i x hi);have him2:x.imm<4:=by
   have:=him.2.2.2.2.1;unfold T.immOk at this;rw[if_neg (by omega),if_pos h33]at this;simpa using this
  have hx0:=ht.im x hx;have hv4:x.imm.toNat<(T.aAa t).length:=by omega
  have hwa:=T.aHt hcl ht.im hi h33 him2;have hwd:(T.aAa t).getD x.imm.toNat 0=x.w:=by rw[List.getD,hwa];rfl
  have htt:=aCp (T.aAa t) x.imm.toNat hv4;rw[hwd]at htt;rw[aC6 _ _ _ hv4,hwd,zBH];obtain⟨g1,g2⟩:=aYp (M:=total (T.aAa t)) (K:=total ((T.aAa t).take x.imm.toNat)) (w:=x.w.toNat) htt;refine⟨g1,by rw[g2];have:=him.2.2.1;omega,fun e=>?_⟩;unfold envOf;have hvl:x.imm.toNat<(aAj (T.aAa t) 0).length:=by rw[aCc];exact hv4
  have hvg:(aAj (T.aAa t) 0)[x.imm.toNat]? =some (aAz (total ((T.aAa t).take x.imm.toNat)) x.w.toNat):=by
   have:=aC6 (T.aAa t) 0 x.imm.toNat hv4;rw[hwd,zBH,List.getD,zAB hvl]at this;rw[zAB hvl];exact congrArg some this
  rw[List.getD,zAW,hvg];rfl) (zBJ _) hf1
 have hne:=ht.ne;have hrt:t[t.length-1]? =some (t.getD (t.length-1) default):=by
  rw[List.getD,zAB (by omega)];rfl
 obtain⟨r1,r2,r3⟩:=w4 (t.length-1) (by omega) ht.root _ hrt;have hrw:=T.aAo (ht.sh _ _ hrt);have hlen:((words t).1.getD (t.length-1) []).length=aBw t:=by
  have r2':(((words t).1.getD (t.length-1) []).length:Int)=(t.getD (t.length-1) default).w:=r2;unfold aBw;omega
 obtain⟨c1,c2,c3,c4⟩:=aYr w1 r1 (zBJ _) hf2;have hcb:c.b=aBs ((words t).1.getD (t.length-1) []) (words t).2 ((words t).1.getD (t.length-1) []).length:=by rw[hc]
 have hcr:c.root=((words t).2.n:Int)+1:=by rw[hc]
 have hcn:c.b.n=(words t).2.n+aBw t:=by rw[hcb,<-hlen];exact c3
 have hval:∀e,(wv (words t).2 e ((words t).1.getD (t.length-1) []):Int)=(valsTo t (envOf t e) t.length).getD (t.length-1) 0:=r3;refine⟨by rw[hcb];exact c1,by rw[hc],by rw[hcr];omega,by rw[hcr,hcn];omega,by rw[hcb];exact w2.trans c2,fun e j hj=>?_,fun e=>?_⟩
 ·rw[hcr,hcb,show((words t).2.n:Int)+1+(j:Int)=(((words t).2.n+1+j:Nat):Int) by omega];have h5:=c4 e j (by show j<((words t).1.getD (t.length-1) []).length;rw[hlen];exact hj);rw[<-hval e,zBA,aAx,hlen];simp only[hj,decide_true,Bool.true_and];rw[<-hlen];exact h5
 ·rw[<-hval e];have:=wv_lt (words t).2 e ((words t).1.getD (t.length-1) []);rw[hlen]at this;omega
end Go.Proofs.YtchdbhggbdcapaaGreat.C
end
