/- Part. -/
import Derived.Test.YtchdbhggbdcapaaGreatSuLX
import Derived.Test.YtchdbhggbdcapaaGreatSu08
set_option linter.unusedVariables false
set_option linter.unusedSimpArgs false
set_option maxRecDepth 100000
set_option maxHeartbeats 16000000
section
namespace Go.Proofs.YtchdbhggbdcapaaGreat.C
open S
open T (Nd)
theorem aPl(t:List Nd)(env:List Int):∀j,valsTo t env j=T.valsTo t env j
 | 0=>rfl
 | j+1=>by rw[valsTo,T.valsTo,aPl t env j];rfl
def rv(t:List Nd)(env:List Int):Int:=(T.vals t env).getD (t.length-1) 0
theorem rv_eq(t:List Nd)(env:List Int):(valsTo t env t.length).getD (t.length-1) 0=rv t env:=by rw[aPl];rfl
theorem tm_of{t:List Nd}(hv:T.valid true t=0)(hi:∀y∈t,0<=y.imm):Tm t/\T.aAw t=false:=by
 obtain⟨v1,v2,v3,v4,v5⟩:=aBk hv;exact⟨⟨by omega,v3,fun i y h=>v4 y (zAC h),hi⟩,v5⟩
def envK:List Int->Nat->List Int
 | [],_=> []
 | w :: r,k=>((k % 2 ^ w.toNat:Nat):Int) :: envK r (k / 2 ^ w.toNat)
theorem aE6:∀(l:List Int) (k:Nat),(envK l k).length=l.length
 | [],_=>rfl
 | w :: r,k=>by simp[envK,aE6 r]
def numK:List Int->List Int->Nat
 | w :: r,x :: xs=>x.toNat+2 ^ w.toNat*numK r xs
 | _,_=>0
theorem aIp(w:Int)(r:List Int):total (w :: r)=w.toNat+total r:=by simp[total]
theorem aVi:∀(l xs:List Int),xs.length=l.length->(∀i,i<l.length->0<=xs.getD i 0/\xs.getD i 0<((2 ^ (l.getD i 0).toNat:Nat):Int))->numK l xs<2 ^ total l/\envK l (numK l xs)=xs
 | [], [],_,_=>⟨by decide,rfl⟩
 | [],x :: xs,h,_=>by simp at h
 | w :: r, [],h,_=>by simp at h
 | w :: r,x :: xs,h,hx=>by
  have h0:=hx 0 (by simp);simp only[List.getD_cons_zero]at h0;obtain⟨h1,h2⟩:=aVi r xs (by simpa using h) (fun i hi=>by
   have:=hx (i+1) (by simp;omega);simpa using this)
  have h3:x.toNat<2 ^ w.toNat:=by omega
  have hp:=Nat.two_pow_pos w.toNat;constructor
  ·rw[aIp,Nat.pow_add,numK]
   calc x.toNat+2 ^ w.toNat*numK r xs<2 ^ w.toNat+2 ^ w.toNat*numK r xs:=by omega
    _=2 ^ w.toNat* (numK r xs+1):=by rw[Nat.mul_add,Nat.mul_one,Nat.add_comm]
    _<=2 ^ w.toNat*2 ^ total r:=Nat.mul_le_mul_left _ h1
  ·rw[numK,envK,Nat.add_mul_mod_self_left,zAU h3,Nat.add_mul_div_left _ _ hp,Nat.div_eq_of_lt h3,zBH,h2]
   congr 1
   omega
theorem aF4:∀(l:List Int) (k v:Nat),v<l.length->(envK l k).getD v 0=((k / 2 ^ total (l.take v) % 2 ^ (l.getD v 0).toNat:Nat):Int)
 | [],_,_,h=>by simp at h
 | w :: r,k,0,_=>by simp[envK,total]
 | w :: r,k,v+1,h=>by
  have:=aF4 r (k / 2 ^ w.toNat) v (by simpa using h);simp only[envK,List.getD_cons_succ,List.take_succ_cons,aIp];rw[this,Nat.pow_add,Nat.div_div_eq_div_mul]
def bitE(k:Nat):E:=fun v=>k.testBit (v-2)
theorem aNl{M:Nat}(k:Nat):∀(l:List Int) (K:Nat),K+total l<=M->(aAj l K).map (fun w=>(wv (inB M) (bitE k) w:Int))=envK l (k / 2 ^ K)
 | [],K,_=>rfl
 | w :: r,K,h=>by
  rw[aIp]at h;rw[aAj,List.map_cons,envK,aNl k r (K+w.toNat) (by omega),Nat.div_div_eq_div_mul,<-Nat.pow_add]
  congr 1
  congr 1
  apply Nat.eq_of_testBit_eq;intro j;have hl:(aAz K w.toNat).length=w.toNat:=by simp[aAz]
  rw[aAx,hl,Nat.testBit_mod_two_pow,Nat.testBit_div_two_pow]
  by_cases hj:j<w.toNat
  ·have hb:bt (inB M) (bitE k) (aAz K w.toNat) j=k.testBit (K+j):=by
    unfold bt;have:(aAz K w.toNat).getD j 0=((K+2+j:Nat):Int):=by
     unfold aAz;simp only[List.getD,zAW,List.getElem?_range hj,Option.map_some,Option.getD_some]
    rw[this,aId (by omega) (by omega)];unfold bitE
    congr 1
    omega
   rw[hb,Nat.add_comm K j]
  ·simp[hj]
theorem aKg(t:List Nd)(k:Nat):envOf t (bitE k)=envK (T.aAa t) k:=by
 have:=aNl (M:=total (T.aAa t)) k (T.aAa t) 0 (by omega);rw[Nat.pow_zero,Nat.div_one]at this;exact this
theorem aFd(t:List Nd)(e:E):(envOf t e).length=(T.aAa t).length:=by simp[envOf,aCc]
theorem aR5(t:List Nd)(e:E){i:Nat}(hi:i<(T.aAa t).length):(envOf t e).getD i 0=(wv (inB (total (T.aAa t))) e (aAz (total ((T.aAa t).take i)) ((T.aAa t).getD i 0).toNat):Int):=by
 have hvl:i<(aAj (T.aAa t) 0).length:=by rw[aCc];exact hi
 have h1:=aC6 (T.aAa t) 0 i hi;rw[zBH,List.getD,zAB hvl]at h1;unfold envOf;rw[List.getD,zAW,zAB hvl]
 show(wv _ e (aAj (T.aAa t) 0)[i]:Int)=_
 rw[show(aAj (T.aAa t) 0)[i]=_ from h1]
theorem aHw(t:List Nd)(e:E):∃k,k<2 ^ total (T.aAa t)/\envOf t e=envK (T.aAa t) k:=by
 obtain⟨h1,h2⟩:=aVi (T.aAa t) (envOf t e) (aFd t e) (fun i hi=>by
  rw[aR5 t e hi];have:=wv_lt (inB (total (T.aAa t))) e (aAz (total ((T.aAa t).take i)) ((T.aAa t).getD i 0).toNat);rw[show(aAz (total ((T.aAa t).take i)) ((T.aAa t).getD i 0).toNat).length=((T.aAa t).getD i 0).toNat from by simp[aAz]]at this;exact⟨by omega,by exact_mod_cast this⟩)
 exact⟨_,h1,h2.symm⟩
theorem aCx{t:List Nd}(ht:Tm t){v:Nat}{z:Int}(hz:(T.aAa t)[v]? =some z):0<=z/\z<=32:=by
 by_cases h0:z=0
 ·omega
 ·obtain⟨i,y,h1,h2,h3,h4⟩:=T.aFr hz h0;have:=T.aAo (ht.sh i y h1);omega
theorem aDt{t:List Nd}(ht:Tm t)(k:Nat):T.EnvOk t (envK (T.aAa t) k):=by
 have hl:=T.aA9 t;refine⟨by rw[aE6,hl],fun x hx=>?_,fun v z hz h0=>?_⟩
 ·obtain⟨v,hv⟩:=zAG hx;have hvl:=(zAA.1 hv).1;rw[aE6]at hvl;have h1:=aF4 (T.aAa t) k v hvl;rw[List.getD,hv]at h1;have h2:=aCx ht (zAB hvl);have h3:(T.aAa t).getD v 0=(T.aAa t)[v]:=by rw[List.getD,zAB hvl];rfl
  have h4:k / 2 ^ total ((T.aAa t).take v) % 2 ^ ((T.aAa t).getD v 0).toNat<2 ^ ((T.aAa t).getD v 0).toNat:=Nat.mod_lt _ (Nat.two_pow_pos _);have h5:2 ^ ((T.aAa t).getD v 0).toNat<=2 ^ 32:=zAJ (by decide) (by rw[h3];omega);have h6:(2:Nat) ^ 32=4294967296:=by decide
  have h7:x=((k / 2 ^ total ((T.aAa t).take v) % 2 ^ ((T.aAa t).getD v 0).toNat:Nat):Int):=h1;rw[h7];omega
 ·have hvl:=(zAA.1 hz).1;rw[aF4 _ _ _ hvl];have h2:=aCx ht hz;have h3:(T.aAa t).getD v 0=z:=by rw[List.getD,hz];rfl
  rw[h3];have h4:k / 2 ^ total ((T.aAa t).take v) % 2 ^ z.toNat<2 ^ z.toNat:=Nat.mod_lt _ (Nat.two_pow_pos _);rw[show z=((z.toNat:Nat):Int)from by omega,pw_of];simp only[zBA]at h4⊢;omega
theorem aVj{t:List Nd}{env:List Int}(hv:T.valid true t=0)(hi:∀y∈t,0<=y.imm)(he:T.EnvOk t env):0<=rv t env/\rv t env<B.pw (t.getD (t.length-1) default).w:=by
 have hs:=T.aNk hv hi he;have h1:=(aBk hv).1;have hw:=T.aFs hs t.length (zBJ _);have hx:t[t.length-1]? =some (t.getD (t.length-1) default):=by rw[T.aEk (by omega)];exact zAB _
 have:=hw (t.length-1) _ (by rw[T.valsTo_len];omega) hx;exact this
section
variable {cs : List (List Int)} {given : List Int} {s : Int -> Bool}
theorem aMa(hn:∀l,l≠0->s (-l)= !s l)(hc:∀c∈cs,(∀l∈c,l≠0)/\∃l∈c,s l=true)(hg:∀l∈given,s l=true){l:Int}(h:Der cs given l):s l=true:=by
 induction h with
 | given_ h=>exact hg _ h
 | @unit_ l c h1 h2 h3 ih=>
  obtain⟨h4,m,hm,hsm⟩:=hc c h1
  by_cases e:m=l
  ·rw[<-e];exact hsm
  ·have:=ih m hm e;rw[hn m (h4 m hm),hsm]at this;cases this
end
theorem aD4{n:Int}{c:List Int}(h:isClause n c=true):∀l∈c,l≠0:=fun l hl=>aAc (zAD.1 h l hl)
def aAl(c:Circ)(z:Int):List (List Int):=c.b.cls ++ [[z*c.root]]
section
variable {t : List Nd} {c : Circ}
theorem Says.root_lit(h:Says t c)(h1:aBw t=1):isLit c.b.n c.root=true:=by
 have:=h.r1;have:=h.rn;simp only[isLit,zBQ];omega
theorem Says.bit0(h:Says t c)(h1:aBw t=1)(e:E):rv t (envOf t e)=if lsem c.b c.root e=true then 1 else 0:=by
 have hv:=h.val e 0 (by omega);have hw:=h.word e;rw[rv_eq]at hv hw;rw[h1]at hw;rw[show c.root+((0:Nat):Int)=c.root from by omega]at hv;rw[hv];obtain⟨w1,w2⟩:=hw;have hc:rv t (envOf t e)=0\/rv t (envOf t e)=1:=by
  have:((2 ^ 1:Nat):Int)=2:=by decide
  omega
 rcases hc with q | q <;> rw[q] <;> decide
def modE(m:List Bool):E:=fun v=>m.getD (v-1) false
def mval(m:List Bool)(l:Int):Bool:=m.getD (l.natAbs-1) false == decide (0<l)
theorem aMb(m:List Bool){l:Int}(h:l≠0):mval m (-l)= !mval m l:=by
 unfold mval;rw[Int.natAbs_neg];generalize m.getD (l.natAbs-1) false=b;rcases Int.lt_or_gt_of_ne h with h | h
 ·have h1:decide (0<l)=false:=by simp;omega
  have h2:decide (0< -l)=true:=by simp;omega
  rw[h1,h2];cases b <;> rfl
 ·have h1:decide (0<l)=true:=by simp;omega
  have h2:decide (0< -l)=false:=by simp;omega
  rw[h1,h2];cases b <;> rfl
theorem Says.model(h:Says t c){z:Int}(hz:z≠0){m:List Bool}(hm:∀k∈aAl c z,sat m k=true)(h0:c.root≠0):(∀l,isLit c.b.n l=true->lsem c.b l (modE m)=mval m l)/\mval m (z*c.root)=true:=by
 have hcl:∀k∈aAl c z,∃l∈k,mval m l=true:=fun k hk=>by
  have:=hm k hk;unfold sat at this;rw[List.any_eq_true]at this;exact this
 have hkey:∀l,isLit c.b.n l=true->lsem c.b l (modE m)=true->mval m l=true:=fun l hl hs=>by
  refine aMa (s:=mval m) (cs:=c.b.cls) (fun l hl=>aMb m hl) (fun k hk=>⟨aD4 (h.ok.lits k hk),hcl k (zAO _ hk)⟩) (fun l hl=>?_) (h.ok.der (modE m) l hl hs);unfold given at hl;obtain⟨i,hi,rfl⟩:=zBU.1 hl;split
  ·rename_i hb;have e1:decide ((0:Int) <((i+2:Nat):Int))=true:=by simp;omega
   unfold modE at hb;unfold mval;rw[e1,show(((i+2:Nat):Int)).natAbs-1=i+2-1 by omega,hb];rfl
  ·rename_i hb;have e1:decide ((0:Int) < -((i+2:Nat):Int))=false:=by simp;omega
   unfold modE at hb;unfold mval;rw[e1,show((-((i+2:Nat):Int))).natAbs-1=i+2-1 by omega];cases hq:m.getD (i+2-1) false
   ·rfl
   ·exact absurd hq hb
 refine⟨fun l hl=>?_,?_⟩
 ·have hl0:=aAc hl;cases hq:lsem c.b l (modE m)
  ·have h2:=hkey (-l) (aAm hl) (by rw[aAn c.b hl0,hq];rfl);rw[aMb m hl0]at h2
   symm
   simpa using h2
  ·exact(hkey l hl hq).symm
 ·obtain⟨l,hl,hv⟩:=hcl [z*c.root] (zAP _ (zBD.2 rfl));rw[zBD.1 hl]at hv;exact hv
end
def cntTo(t:List Nd):Nat->Nat
 | 0=>0
 | k+1=>cntTo t k+(if rv t (envK (T.aAa t) k)=1 then 1 else 0)
def nEnv(t:List Nd):Nat:=2 ^ total (T.aAa t)
theorem aHk(t:List Nd):∀n,cntTo t n<=n
 | 0=>zBJ _
 | n+1=>by have:=aHk t n;rw[cntTo];split <;> omega
theorem aKh(t:List Nd):∀n,cntTo t n=n↔∀k,k<n->rv t (envK (T.aAa t) k)=1
 | 0=>⟨fun _ k hk=>by omega,fun _=>rfl⟩
 | n+1=>by
  have h1:=aHk t n;have ih:=aKh t n;rw[cntTo];constructor
  ·intro h k hk;split at h
   ·rename_i he;rcases Nat.lt_or_ge k n with hk' | hk'
    ·exact ih.1 (by omega) k hk'
    ·obtain rfl:k=n:=by omega
     exact he
   ·omega
  ·intro h;rw[if_pos (h n (by omega)),ih.2 fun k hk=>h k (by omega)]
section
variable {t : List Nd} {c : Circ}
theorem Says.valid_iff(h:Says t c)(h1:aBw t=1):(∀e,lsem c.b c.root e=true)↔cntTo t (nEnv t)=nEnv t:=by
 rw[aKh];constructor
 ·intro hv k hk;rw[<-aKg,h.bit0 h1,if_pos (hv _)]
 ·intro hv e;obtain⟨k,hk,he⟩:=aHw t e;have:=hv k hk;rw[<-he,h.bit0 h1]at this;apply zAI;intro hn;rw[if_neg hn]at this;omega
end
end Go.Proofs.YtchdbhggbdcapaaGreat.C
end
section
namespace Go.Proofs.YtchdbhggbdcapaaGreat.S
def pl(l:Int):Nat:=if 0<l then 2*l.toNat else 2* (-l).toNat+1
theorem aEt{l m:Int}(h:pl l=pl m)(h0:l≠0):l=m:=by
 unfold pl at h;split at h <;> split at h <;> omega
theorem aB1{n:Nat}{l:Int}:isLit n l=true↔-(n:Int)<=l/\l<=n/\l≠0:=by simp[isLit]
theorem pl_lt{n:Nat}{l:Int}(h:isLit n l=true):pl l<2*n+2:=by
 have:=aB1.1 h;unfold pl;split <;> omega
theorem aBh{n:Nat}{l:Int}(h:isLit n l=true):1<=l.natAbs/\l.natAbs<=n:=by
 have:=aB1.1 h;omega
def lev(lim:List Nat)(i:Nat):Nat:=lim.countP fun x=>decide (x<=i)
theorem aHl(lim:List Nat)(i:Nat):lev lim i<=lim.length:=List.countP_le_length
theorem aMc{lim:List Nat}{i:Nat}(h:∀x∈lim,x<=i):lev lim i=lim.length:=by
 unfold lev;exact List.countP_eq_length.2 fun x hx=>by simpa using h x hx
theorem aR6(lim:List Nat){i j:Nat}(h:i<=j):lev lim i<=lev lim j:=by
 unfold lev;exact List.countP_mono_left fun x _ hx=>by simp at hx⊢;omega
theorem aIq{lim:List Nat}{i:Nat}:lev lim i=0↔∀x∈lim,i<x:=by
 unfold lev;rw[List.countP_eq_zero];exact⟨fun h x hx=>by have:=h x hx;simp at this;omega,fun h x hx=>by have:=h x hx;simp;omega⟩
theorem aMd{lim:List Nat}{i x:Nat}:lev (lim ++ [x]) i=lev lim i+if x<=i then 1 else 0:=by
 unfold lev;rw[List.countP_append]
 congr 1
 by_cases h:x<=i <;> simp[h]
theorem aVk{lim:List Nat}(hs:lim.Pairwise (· < ·)){L at_:Nat}(hL:lim[L]? =some at_):∀x∈lim.drop L,at_<=x:=by
 obtain⟨hlt,he⟩:=zAA.1 hL;rw[List.drop_eq_getElem_cons hlt,he];intro x hx;rcases zBF.1 hx with rfl | hx
 ·exact zBJ _
 ·have h1:(lim.drop L).Pairwise (· < ·):=hs.sublist (List.drop_sublist _ _);rw[List.drop_eq_getElem_cons hlt,he]at h1;exact Nat.le_of_lt ((List.pairwise_cons.1 h1).1 x hx)
theorem aOl{lim:List Nat}(hs:lim.Pairwise (· < ·)){L at_:Nat}(hL:lim[L]? =some at_):∀x∈lim.take L,x<at_:=by
 obtain⟨hlt,he⟩:=zAA.1 hL;intro x hx;have h1:=hs;rw[<-List.take_append_drop L lim,List.pairwise_append]at h1;exact h1.2.2 x hx at_ (by rw[List.drop_eq_getElem_cons hlt,he];simp)
theorem aIr{lim:List Nat}(hs:lim.Pairwise (· < ·)){L at_:Nat}(hL:lim[L]? =some at_){i:Nat}(hi:i<at_):lev (lim.take L) i=lev lim i:=by
 have h:lev lim i=lev (lim.take L) i+lev (lim.drop L) i:=by
  unfold lev;rw[<-List.countP_append,List.take_append_drop]
 have h0:lev (lim.drop L) i=0:=aIq.2 fun x hx=>by have:=aVk hs hL x hx;omega
 omega
theorem aCr{lim:List Nat}(hs:lim.Pairwise (· < ·)){L at_:Nat}(hL:lim[L]? =some at_){i:Nat}:lev lim i<=L↔i<at_:=by
 obtain⟨hlt,he⟩:=zAA.1 hL;constructor
 ·intro h;apply zAI;intro hn;have h1:lev lim i=lev (lim.take L) i+lev (lim.drop L) i:=by
   unfold lev;rw[<-List.countP_append,List.take_append_drop]
  have h2:lev (lim.take L) i=(lim.take L).length:=aMc fun x hx=>by have:=aOl hs hL x hx;omega
  have h3:0<lev (lim.drop L) i:=by
   apply Nat.pos_of_ne_zero;rw[Ne,aIq];intro h;have:=h at_ (by rw[List.drop_eq_getElem_cons hlt,he];simp);omega
  simp[zAZ]at h2;omega
 ·intro h;rw[<-aIr hs hL h];refine zBK (aHl _ _) ?_;simp[zAZ];omega
structure Trl(n:Nat)(val:List Int)(lvl:List Nat)(trl:List Int)(lim:List Nat):Prop where
 wf:Wf n val
 len:lvl.length=n+1
 lits:∀t∈trl,isLit n t=true
 dist:(trl.map Int.natAbs).Nodup
 vals:∀l,isLit n l=true->(S.val val l=1↔l∈trl)
 lims:lim.Pairwise (· < ·)
 limlt:∀x∈lim,x<trl.length
 levs:∀i t,trl[i]? =some t->lvl.getD t.natAbs 0=lev lim i
section
variable {n : Nat} {val : List Int} {lvl : List Nat} {trl : List Int} {lim : List Nat}
theorem Trl.neg(h:Trl n val lvl trl lim){l:Int}(hl:isLit n l=true):S.val val l= -1↔-l∈trl:=by
 rw[<-h.vals (-l) (aCf hl),aDb _ (aAc hl)];omega
theorem Trl.zero(h:Trl n val lvl trl lim){l:Int}(hl:isLit n l=true):S.val val l=0↔l∉trl/\-l∉trl:=by
 rw[<-h.vals l hl,<-h.neg hl];have:=h.wf.val l;omega
theorem Trl.not_both(h:Trl n val lvl trl lim){l:Int}(h1:l∈trl)(h2: -l∈trl):False:=by
 have hl:=h.lits l h1;have a:=(h.vals l hl).2 h1;have b:=(h.neg hl).2 h2;omega
theorem aDu{l:List Nat}{n:Nat}(hd:l.Nodup)(h:∀x∈l,1<=x/\x<=n):l.length<=n:=by
 have h1:l⊆(List.range n).map (· + 1):=by
  intro x hx;have:=h x hx;rw[zBU];exact⟨x-1,by rw[zBR];omega,by omega⟩
 have:=hd.length_le_of_subset h1;simpa using this
theorem Trl.size(h:Trl n val lvl trl lim):trl.length<=n:=by
 have:=aDu h.dist (n:=n) (fun x hx=>by
  obtain⟨t,ht,rfl⟩:=zBU.1 hx;exact aBh (h.lits t ht))
 simpa using this
theorem aYv{lim:List Nat}(hs:lim.Pairwise (· < ·)){m:Nat}(hl:∀x∈lim,x<m):lim.length<=m:=by
 have hnd:lim.Nodup:=hs.imp fun h=>Nat.ne_of_lt h
 have h1:lim⊆List.range m:=fun x hx=>zBR.2 (hl x hx)
 simpa using hnd.length_le_of_subset h1
theorem Trl.limsz(h:Trl n val lvl trl lim):lim.length<=trl.length:=aYv h.lims h.limlt
theorem Trl.inj(h:Trl n val lvl trl lim){i j:Nat}{t u:Int}(hi:trl[i]? =some t)(hj:trl[j]? =some u)(he:t.natAbs=u.natAbs):i=j:=by
 have h1:i<trl.length:=(zAA.1 hi).1;have h2:j<trl.length:=(zAA.1 hj).1;have e1:(trl.map Int.natAbs)[i]? =some t.natAbs:=by rw[zAW,hi];rfl
 have e2:(trl.map Int.natAbs)[j]? =some u.natAbs:=by rw[zAW,hj];rfl
 rw[he]at e1;exact(List.getElem?_inj (by simpa using h1) h.dist).1 (e1.trans e2.symm)
theorem aA3{α:Type}{l:List α}{p:Nat}{x:α}:x∈l.take p↔∃i,i<p/\l[i]? =some x:=by
 constructor
 ·intro h;obtain⟨i,hi⟩:=zAG h;rw[zBB]at hi;split at hi
  ·exact⟨i,by assumption,hi⟩
  ·cases hi
 ·rintro⟨i,hi,he⟩;exact zAC (i:=i) (by rw[zBB,if_pos hi];exact he)
theorem aGu(h:Wf n val){l m:Int}(hl:isLit n l=true)(hm:isLit n m=true):S.val (put val l) m=if m=l then 1 else if m= -l then -1 else S.val val m:=aK6 h hl m (aAc hm)
theorem aD5(of:List Nat)(i j:Nat)(x:Nat):(of.set i x).getD j 0=if i=j/\i<of.length then x else of.getD j 0:=by
 simp only[List.getD,List.getElem?_set]
 by_cases h:i=j
 ·subst h
  by_cases h2:i<of.length
  ·simp[h2]
  ·simp[h2]
 ·simp[h]
theorem Trl.tell(h:Trl n val lvl trl lim){l:Int}(hl:isLit n l=true)(h0:S.val val l=0):Trl n (put val l) (lvl.set l.natAbs lim.length) (trl ++ [l]) lim:=by
 obtain⟨z1,z2⟩:=(h.zero hl).1 h0;have habs:=aBh hl;have hnew:∀t∈trl,t.natAbs≠l.natAbs:=fun t ht e=>by
  have hc:t=l\/t= -l:=by omega
  rcases hc with rfl | rfl
  ·exact z1 ht
  ·exact z2 ht
 refine⟨h.wf.put l,by simp[h.len],?_,?_,?_,h.lims,fun x hx=>by have:=h.limlt x hx;simp;omega,?_⟩
 ·intro t ht;rcases zBE.1 ht with ht | ht
  ·exact h.lits t ht
  ·rw[zBD.1 ht];exact hl
 ·rw[zBS,List.nodup_append];refine⟨h.dist,by simp,fun a ha b hb=>?_⟩;obtain⟨t,ht,rfl⟩:=zBU.1 ha;simp at hb;rw[hb];exact hnew t ht
 ·intro m hm;rw[aGu h.wf hl hm,zBE,zBD]
  by_cases e:m=l
  ·subst e;simp
  ·rw[if_neg e]
   by_cases e2:m= -l
   ·rw[if_pos e2];constructor
    ·intro h;omega
    ·rintro(h | h)
     ·rw[e2]at h;exact absurd h z2
     ·exact absurd h e
   ·rw[if_neg e2,h.vals m hm];exact⟨fun h=> .inl h,fun h=>h.resolve_right e⟩
 ·intro i t ht;rw[aD5];rcases Nat.lt_or_ge i trl.length with hi | hi
  ·rw[zAE hi]at ht;rw[if_neg (fun e=>hnew t (zAC ht) e.1.symm)];exact h.levs i t ht
  ·rw[zAF hi]at ht;obtain⟨hj,he⟩:=zAA.1 ht;simp at hj;have hi':i=trl.length:=by omega
   subst hi';simp at he;subst he;rw[if_pos ⟨rfl,by rw[h.len];omega⟩,aMc fun x hx=>Nat.le_of_lt (h.limlt x hx)]
theorem Trl.choose(h:Trl n val lvl trl lim){l:Int}(hl:isLit n l=true)(h0:S.val val l=0):Trl n (put val l) (lvl.set l.natAbs (lim.length+1)) (trl ++ [l]) (lim ++ [trl.length]):=by
 have ht:=h.tell hl h0;refine⟨ht.wf,by simp[h.len],ht.lits,ht.dist,ht.vals,?_,?_,?_⟩
 ·rw[List.pairwise_append];exact⟨h.lims,by simp,fun a ha b hb=>by rw[zBD.1 hb];exact h.limlt a ha⟩
 ·intro x hx;rw[zAX,List.length_singleton];rcases zBE.1 hx with hx | hx
  ·have:=h.limlt x hx;omega
  ·rw[zBD.1 hx];omega
 ·intro i t hi;have h1:=ht.levs i t hi;rw[aD5]at h1⊢;rw[aMd];have habs:=aBh hl
  by_cases e:l.natAbs=t.natAbs
  ·have hlt:i=trl.length:=by
    have:=ht.inj (i:=i) (j:=trl.length) (u:=l) hi (by simp) e.symm;exact this
   rw[if_pos ⟨e,by rw[h.len];omega⟩]at h1⊢;rw[if_pos (by omega)];omega
  ·rw[if_neg (fun x=>e x.1)]at h1⊢;have hlt:i<trl.length:=by
    apply zAI;intro hn;rw[zAF (by omega)]at hi;obtain⟨hj,he⟩:=zAA.1 hi;simp at hj;have:i=trl.length:=by omega
    subst this;simp at he;exact e (by rw[he])
   rw[if_neg (by omega)];omega
def unset(val:List Int)(ts:List Int):List Int:=ts.foldl (fun v t=>v.set t.natAbs 0) val
theorem aYw(ts:List Int)(val:List Int):(unset val ts).length=val.length:=by
 unfold unset;induction ts generalizing val with
 | nil=>rfl
 | cons t r ih=>rw[List.foldl_cons,ih];simp
theorem aIs(ts:List Int)(val:List Int)(k:Nat):(unset val ts).getD k 0=if k∈ts.map Int.natAbs then 0 else val.getD k 0:=by
 unfold unset;induction ts generalizing val with
 | nil=>simp
 | cons t r ih=>
  rw[List.foldl_cons,ih,aC3,List.map_cons]
  by_cases h1:k∈r.map Int.natAbs
  ·rw[if_pos h1,if_pos (zAQ _ h1)]
  ·rw[if_neg h1]
   by_cases h2:t.natAbs=k
   ·rw[if_pos (show k∈t.natAbs :: r.map Int.natAbs by rw[h2];exact List.mem_cons_self ..)];split
    ·rfl
    ·rename_i h3;have h4:val.length<=k:=by omega
     simp[List.getD,zAN h4]
   ·rw[if_neg (fun e=>h2 e.1),if_neg (fun e=>(zBF.1 e).elim (fun e=>h2 e.symm) h1)]
theorem aYx(ts:List Int)(val:List Int)(l:Int):S.val (unset val ts) l=if l.natAbs∈ts.map Int.natAbs then 0 else S.val val l:=by
 unfold S.val
 by_cases h0:0<l
 ·rw[if_pos h0,if_pos h0,aIs,show l.toNat=l.natAbs from by omega]
 ·rw[if_neg h0,if_neg h0,aIs,show(-l).toNat=l.natAbs from by omega];split <;> simp
theorem aWo(ts:List Int)(val:List Int)(t:Int):unset val (ts ++ [t])=(unset val ts).set t.natAbs 0:=by
 unfold unset;rw[List.foldl_append];rfl
theorem Trl.back(h:Trl n val lvl trl lim){L at_:Nat}(hL:lim[L]? =some at_):Trl n (unset val (trl.drop at_)) lvl (trl.take at_) (lim.take L):=by
 have hlt:at_<trl.length:=h.limlt _ (zAC hL);have key:∀l,isLit n l=true->(l.natAbs∈(trl.drop at_).map Int.natAbs↔(l∈trl.drop at_\/ -l∈trl.drop at_)):=by
  intro l hl;rw[zBU];constructor
  ·rintro⟨t,ht,he⟩;rcases(show t=l\/t= -l by omega)with rfl | rfl
   ·exact .inl ht
   ·exact .inr ht
  ·rintro(h | h)
   ·exact⟨l,h,rfl⟩
   ·exact⟨-l,h,by omega⟩
 have dis:∀l,l∈trl.take at_->l∈trl.drop at_\/ -l∈trl.drop at_->False:=by
  intro l h1 h2;obtain⟨i,hi,ei⟩:=aA3.1 h1;have h3:∃t j,trl[at_+j]? =some t/\t.natAbs=l.natAbs:=by
   rcases h2 with h2 | h2
   ·obtain⟨j,hj⟩:=zAG h2;rw[List.getElem?_drop]at hj;exact⟨_,j,hj,rfl⟩
   ·obtain⟨j,hj⟩:=zAG h2;rw[List.getElem?_drop]at hj;exact⟨_,j,hj,by omega⟩
  obtain⟨t,j,hj,he⟩:=h3;have:=h.inj ei hj he.symm;omega
 refine⟨⟨by rw[aYw];exact h.wf.len,fun k=>?_⟩,h.len,fun t ht=>h.lits t (List.mem_of_mem_take ht),?_,?_,h.lims.sublist (List.take_sublist _ _),?_,?_⟩
 ·rw[aIs];split
  ·omega
  ·exact h.wf.tri k
 ·rw[List.map_take];exact h.dist.sublist (List.take_sublist _ _)
 ·intro l hl;rw[aYx]
  by_cases hm:l.natAbs∈(trl.drop at_).map Int.natAbs
  ·rw[if_pos hm];have h1:=(key l hl).1 hm;constructor
   ·intro h;omega
   ·intro h;exact absurd h1 fun h1=>dis l h h1
  ·rw[if_neg hm,h.vals l hl];constructor
   ·intro h1;rw[<-List.take_append_drop at_ trl,zBE]at h1;exact h1.resolve_right fun h2=>hm ((key l hl).2 (.inl h2))
   ·exact fun h=>List.mem_of_mem_take h
 ·intro x hx;have h1:=aOl h.lims hL x hx;rw[zAZ];omega
 ·intro i t hi;rw[zBB]at hi;split at hi
  ·rw[h.levs i t hi,aIr h.lims hL (by assumption)]
  ·cases hi
theorem Trl.back_val(h:Trl n val lvl trl lim){L at_:Nat}(hL:lim[L]? =some at_){l:Int}(hl:isLit n l=true)(hv:S.val val l= -1)(hlv:lvl.getD l.natAbs 0<=L): -l∈trl.take at_:=by
 obtain⟨i,hi⟩:=zAG ((h.neg hl).1 hv);have h1:=h.levs i _ hi;rw[show(-l).natAbs=l.natAbs from by omega]at h1;exact aA3.2 ⟨i,(aCr h.lims hL).1 (by omega),hi⟩
theorem Trl.back_gone(h:Trl n val lvl trl lim){L at_:Nat}(hL:lim[L]? =some at_){l:Int}(hl:isLit n l=true)(hlv:L<lvl.getD l.natAbs 0):S.val (unset val (trl.drop at_)) l=0:=by
 have hb:=h.back hL;rw[hb.zero hl];have key:∀m,m.natAbs=l.natAbs->m∉trl.take at_:=by
  intro m hm hin;obtain⟨i,hi,ei⟩:=aA3.1 hin;have h1:=h.levs i _ ei;rw[hm]at h1;have h2:=(aCr h.lims hL).2 hi;omega
 exact⟨key l rfl,key (-l) (by omega)⟩
end
end Go.Proofs.YtchdbhggbdcapaaGreat.S
end
section
open Go.Proofs.YtchdbhggbdcapaaGreat (tK tk rd tc gA kH)
namespace Go.Proofs.YtchdbhggbdcapaaGreat.S
structure Sol where
 cls:List (List Int)
 lrn:List (List Int)
 wat:List (List Nat)
 val:List Int
 lvl:List Nat
 rsn:List Int
 trl:List Int
 lim:List Nat
 nxt:Nat
 phs:List Int
def Eqv(c d:List Int):Prop:=∀m,m∈c↔m∈d
structure Cla(n:Nat)(cs:List (List Int))(c:List Int):Prop where
 two:2<=c.length
 dist:(c.map Int.natAbs).Nodup
 lits:isClause n c=true
 orig:∃d∈cs,Eqv c d
def aR7(cs:List (List Int))(t:Int):Prop:=∃c∈cs,t∈c/\∀m∈c,m=t
def Rsn(cs cls:List (List Int))(rsn:List Int)(trl:List Int)(lim:List Nat):Prop:=
 ∀i t,trl[i]? =some t->(rsn.getD t.natAbs 0= -1/\(i∈lim\/lev lim i=0/\aR7 cs t))\/
  ∃(k:Nat) (c:List Int),rsn.getD t.natAbs 0=k/\cls[k]? =some c/\t∈c/\i∉lim/\∀m∈c,m≠t->-m∈trl.take i
structure Wat(n:Nat)(cls:List (List Int))(wat:List (List Nat)):Prop where
 len:wat.length=2*n+2
 mem:∀l,isLit n l=true->∀k,k∈wat.getD (pl l) []↔∃c,cls[k]? =some c/\(c[0]? =some l\/c[1]? =some l)
 nd:∀l,isLit n l=true->(wat.getD (pl l) []).Nodup
def Wok(val:List Int)(lvl:List Nat)(trl:List Int)(p:Nat)(c:List Int):Prop:=
 ∀a b,c[0]? =some a->c[1]? =some b->(-a∈trl.take p->S.val val b=1/\lvl.getD b.natAbs 0<=lvl.getD a.natAbs 0)/\(-b∈trl.take p->S.val val a=1/\lvl.getD a.natAbs 0<=lvl.getD b.natAbs 0)
def Taut(c:List Int):Prop:=∃m∈c,-m∈c
def Cov(done cls:List (List Int))(trl:List Int)(lim:List Nat):Prop:=
 ∀c∈done,Taut c\/(∃d∈cls,Eqv d c)\/∃i t,trl[i]? =some t/\lev lim i=0/\t∈c
structure Inv(n:Nat)(cs0 done:List (List Int))(p:Nat)(s:Sol):Prop where
 trl:Trl n s.val s.lvl s.trl s.lim
 rln:s.rsn.length=n+1
 pln:s.phs.length=n+1
 phs:∀v,v<=n->s.phs.getD v 0=1\/s.phs.getD v 0= -1
 cla:∀c∈s.cls,Cla n (cs0 ++ s.lrn) c
 rsn:Rsn (cs0 ++ s.lrn) s.cls s.rsn s.trl s.lim
 wat:Wat n s.cls s.wat
 ok:∀c∈s.cls,Wok s.val s.lvl s.trl p c
 p1:p<=s.trl.length
 p2:∀x∈s.lim,x<=p
 cov:Cov done s.cls s.trl s.lim
 prf:bad cs0 s.lrn=none
 lgd:∀c∈s.lrn,isClause n c=true
 big:s.lrn≠ []->∃c∈cs0,∀l∈c,¬Der cs0 [] l
theorem Cla.turn{n:Nat}{cs:List (List Int)}{c c':List Int}(h:Cla n cs c)(hp:c'.Perm c):Cla n cs c':=by
 refine⟨by rw[hp.length_eq];exact h.two,(hp.map _).nodup_iff.2 h.dist,?_,?_⟩
 ·rw[isClause,zAD];exact fun x hx=>zAD.1 h.lits x (hp.mem_iff.1 hx)
 ·obtain⟨d,hd,he⟩:=h.orig;exact⟨d,hd,fun m=>(hp.mem_iff).trans (he m)⟩
theorem Cla.more{n:Nat}{cs cs':List (List Int)}{c:List Int}(h:Cla n cs c)(hs:∀d∈cs,d∈cs'):Cla n cs' c:=by
 obtain⟨d,hd,he⟩:=h.orig;exact⟨h.two,h.dist,h.lits,d,hs d hd,he⟩
theorem Cla.inj{n:Nat}{cs:List (List Int)}{c:List Int}(h:Cla n cs c){i j:Nat}{a b:Int}(hi:c[i]? =some a)(hj:c[j]? =some b)(he:a.natAbs=b.natAbs):i=j:=by
 have e1:(c.map Int.natAbs)[i]? =some a.natAbs:=by rw[zAW,hi];rfl
 have e2:(c.map Int.natAbs)[j]? =some b.natAbs:=by rw[zAW,hj];rfl
 rw[he]at e1;exact(List.getElem?_inj (by simpa using(zAA.1 hi).1) h.dist).1 (e1.trans e2.symm)
theorem Cla.lit{n:Nat}{cs:List (List Int)}{c:List Int}(h:Cla n cs c){i:Nat}{a:Int}(hi:c[i]? =some a):isLit n a=true:=zAD.1 h.lits a (zAC hi)
theorem Rsn.turn{cs cls:List (List Int)}{rsn trl:List Int}{lim:List Nat}(h:Rsn cs cls rsn trl lim){k:Nat}{c c':List Int}(hk:cls[k]? =some c)(hp:c'.Perm c):Rsn cs (cls.set k c') rsn trl lim:=by
 intro i t ht;rcases h i t ht with h |⟨j,d,h1,h2,h3,h4,h5⟩
 ·exact .inl h
 ·by_cases e:k=j
  ·subst e;rw[hk]at h2;obtain rfl:=zAH h2;refine .inr ⟨k,c',h1,?_,hp.mem_iff.2 h3,h4,fun m hm=>h5 m (hp.mem_iff.1 hm)⟩;rw[List.getElem?_set,if_pos rfl,if_pos (zAA.1 hk).1]
  ·exact .inr ⟨j,d,h1,by rw[List.getElem?_set,if_neg e];exact h2,h3,h4,h5⟩
theorem Cov.turn{done cls:List (List Int)}{trl:List Int}{lim:List Nat}(h:Cov done cls trl lim){k:Nat}{c c':List Int}(hk:cls[k]? =some c)(hp:c'.Perm c):Cov done (cls.set k c') trl lim:=by
 intro d hd;rcases h d hd with h |⟨e,he,hq⟩ | h
 ·exact .inl h
 ·refine .inr (.inl ?_);obtain⟨j,hj⟩:=zAG he
  by_cases e1:k=j
  ·subst e1;rw[hk]at hj;obtain rfl:=zAH hj;exact⟨c',List.mem_set (zAA.1 hk).1 _,fun m=>hp.mem_iff.trans (hq m)⟩
  ·exact⟨e,zAC (i:=j) (by rw[List.getElem?_set,if_neg e1];exact hj),hq⟩
 ·exact .inr (.inr h)
theorem aJq{α:Type}{l:List α}{k:Nat}{x y:α}(h:y∈l.set k x):y=x\/∃j,j≠k/\l[j]? =some y:=by
 obtain⟨j,hj⟩:=zAG h;rw[List.getElem?_set]at hj;split at hj
 ·split at hj
  ·exact .inl (zAH hj).symm
  ·cases hj
 ·exact .inr ⟨j,by omega,hj⟩
section
variable {n : Nat} {cs0 done : List (List Int)} {p : Nat} {s : Sol}
theorem Inv.turn(h:Inv n cs0 done p s){k:Nat}{c c':List Int}(hk:s.cls[k]? =some c)(hp:c'.Perm c){wat':List (List Nat)}(hw:Wat n (s.cls.set k c') wat')(hok:Wok s.val s.lvl s.trl p c'):
 Inv n cs0 done p {s with cls:=s.cls.set k c',wat:=wat'}:=by
 refine⟨h.trl,h.rln,h.pln,h.phs,fun d hd=>?_,h.rsn.turn hk hp,hw,fun d hd=>?_,h.p1,h.p2,h.cov.turn hk hp,h.prf,h.lgd,h.big⟩
 ·rcases aJq hd with rfl |⟨j,_,hj⟩
  ·exact(h.cla c (zAC hk)).turn hp
  ·exact h.cla d (zAC hj)
 ·rcases aJq hd with rfl |⟨j,_,hj⟩
  ·exact hok
  ·exact h.ok d (zAC hj)
def Sol.tell(s:Sol)(l r:Int):Sol:=
 {s with val:=put s.val l,lvl:=s.lvl.set l.natAbs s.lim.length,rsn:=s.rsn.set l.natAbs r,trl:=s.trl ++ [l]}
theorem aIt{α:Type}{l m:List α}{p:Nat}(h:p<=l.length):(l ++ m).take p=l.take p:=by
 rw[List.take_append_of_le_length h]
theorem Rsn.tell{cs cls:List (List Int)}{rsn trl:List Int}{val:List Int}{lvl:List Nat}{lim:List Nat}(h:Rsn cs cls rsn trl lim)(ht:Trl n val lvl trl lim)(hn:rsn.length=n+1){l r:Int}(hl:isLit n l=true)(h0:S.val val l=0)
 (hr:(r= -1/\lim= []/\aR7 cs l)\/∃(k:Nat) (c:List Int),r=k/\cls[k]? =some c/\l∈c/\∀m∈c,m≠l->-m∈trl):Rsn cs cls (rsn.set l.natAbs r) (trl ++ [l]) lim:=by
 obtain⟨z1,z2⟩:=(ht.zero hl).1 h0;have habs:=aBh hl;intro i t hi;rcases Nat.lt_or_ge i trl.length with hlt | hge
 ·rw[zAE hlt]at hi;have hne:l.natAbs≠t.natAbs:=fun e=>by
   have hm:=zAC hi;rcases(show t=l\/t= -l by omega)with rfl | rfl
   ·exact z1 hm
   ·exact z2 hm
  rw[aC3,if_neg (fun e=>hne e.1)];rcases h i t hi with h |⟨k,c,h1,h2,h3,h4,h5⟩
  ·exact .inl h
  ·exact .inr ⟨k,c,h1,h2,h3,h4,fun m hm hmt=>by rw[aIt (Nat.le_of_lt hlt)];exact h5 m hm hmt⟩
 ·rw[zAF hge]at hi;obtain⟨hj,he⟩:=zAA.1 hi;simp at hj;have hi':i=trl.length:=by omega
  subst hi';simp at he;subst he;rw[aC3,if_pos ⟨rfl,by omega⟩];rcases hr with⟨rfl,rfl,hu⟩ |⟨k,c,rfl,h2,h3,h5⟩
  ·exact .inl ⟨rfl, .inr ⟨by simp[lev],hu⟩⟩
  ·refine .inr ⟨k,c,rfl,h2,h3,fun hin=>by have:=ht.limlt _ hin;omega,fun m hm hmt=>?_⟩;rw[List.take_append_of_le_length (zBJ _),List.take_length];exact h5 m hm hmt
theorem Wok.tell{val:List Int}{lvl:List Nat}{trl:List Int}{lim:List Nat}(ht:Trl n val lvl trl lim){c:List Int}(hp:p<=trl.length)(h:Wok val lvl trl p c){cs:List (List Int)}(hc:Cla n cs c){l:Int}(hl:isLit n l=true)(h0:S.val val l=0)(x:Nat):
 Wok (put val l) (lvl.set l.natAbs x) (trl ++ [l]) p c:=by
 have key:∀b:Int,isLit n b=true->S.val val b=1\/S.val val b= -1->b.natAbs≠l.natAbs:=by
  intro b hb hv e;rcases(show b=l\/b= -l by omega)with rfl | rfl
  ·omega
  ·rw[aDb _ (aAc hl)]at hv;omega
 have kv:∀b:Int,isLit n b=true->b.natAbs≠l.natAbs->S.val (put val l) b=S.val val b:=by
  intro b hb hne;rw[aGu ht.wf hl hb,if_neg (fun e=>hne (by rw[e])),if_neg (fun e=>hne (by rw[e];omega))]
 have kl:∀b:Int,b.natAbs≠l.natAbs->(lvl.set l.natAbs x).getD b.natAbs 0=lvl.getD b.natAbs 0:=by
  intro b hne;rw[aD5,if_neg (fun e=>hne e.1.symm)]
 intro a b ha hb;obtain⟨h1,h2⟩:=h a b ha hb;have la:=hc.lit ha;have lb:=hc.lit hb;rw[aIt hp];refine⟨fun hin=>?_,fun hin=>?_⟩
 ·obtain⟨v,lv⟩:=h1 hin;have va:=(ht.neg la).2 (List.mem_of_mem_take hin);have na:=key a la (.inr va);have nb:=key b lb (.inl v);exact⟨by rw[kv b lb nb];exact v,by rw[kl a na,kl b nb];exact lv⟩
 ·obtain⟨v,lv⟩:=h2 hin;have vb:=(ht.neg lb).2 (List.mem_of_mem_take hin);have na:=key a la (.inl v);have nb:=key b lb (.inr vb);exact⟨by rw[kv a la na];exact v,by rw[kl a na,kl b nb];exact lv⟩
theorem Cov.tell{cls:List (List Int)}{trl:List Int}{lim:List Nat}(h:Cov done cls trl lim)(ts:List Int):Cov done cls (trl ++ ts) lim:=by
 intro c hc;rcases h c hc with h | h |⟨i,t,h1,h2,h3⟩
 ·exact .inl h
 ·exact .inr (.inl h)
 ·exact .inr (.inr ⟨i,t,by rw[zAE (zAA.1 h1).1];exact h1,h2,h3⟩)
theorem Inv.tell(h:Inv n cs0 done p s){l r:Int}(hl:isLit n l=true)(h0:S.val s.val l=0)
 (hr:(r= -1/\s.lim= []/\aR7 (cs0 ++ s.lrn) l)\/∃(k:Nat) (c:List Int),r=k/\s.cls[k]? =some c/\l∈c/\∀m∈c,m≠l->-m∈s.trl):Inv n cs0 done p (s.tell l r):=
 ⟨h.trl.tell hl h0,by simp[Sol.tell,h.rln],h.pln,h.phs,h.cla,h.rsn.tell h.trl h.rln hl h0 hr,h.wat,fun c hc=>(h.ok c hc).tell h.trl h.p1 (h.cla c hc) hl h0 _,by have:=h.p1;simp[Sol.tell];omega,h.p2,h.cov.tell [l],h.prf,h.lgd,h.big⟩
structure Lp(n:Nat)(cs0 done:List (List Int))(p:Nat)(W:Int)(old:List Nat)(i:Nat)(kept:List Nat)(s:Sol):Prop where
 inv:Inv n cs0 done p {s with wat:=s.wat.set (pl W) (kept ++ old.drop i)}
 at_:s.trl[p]? =some (-W)
 ok:∀k c,s.cls[k]? =some c->k∉old.drop i->Wok s.val s.lvl s.trl (p+1) c
 lit:isLit n W=true
 wln:s.wat.length=2*n+2
theorem getD_setL{α:Type}(of:List α)(i j:Nat)(x d:α):(of.set i x).getD j d=if i=j/\i<of.length then x else of.getD j d:=by
 simp only[List.getD,List.getElem?_set]
 by_cases h:i=j
 ·subst h
  by_cases h2:i<of.length
  ·simp[h2]
  ·simp[h2]
 ·simp[h]
theorem Lp.start(h:Inv n cs0 done p s){W:Int}(hW:s.trl[p]? =some (-W)):Lp n cs0 done p W (s.wat.getD (pl W) []) 0 [] s:=by
 have hl:isLit n W=true:=by
  have:=h.trl.lits _ (zAC hW);rw[<-Int.neg_neg W];exact aCf this
 have hlt:pl W<s.wat.length:=by rw[h.wat.len];exact pl_lt hl
 refine⟨?_,hW,?_,hl,h.wat.len⟩
 ·have e:s.wat.set (pl W) ([]++(s.wat.getD (pl W) []).drop 0)=s.wat:=by
   rw[List.drop_zero,List.nil_append,List.getD,zAB hlt];simp
  rw[e];exact h
 ·intro k c hk hnot a b ha hb;rw[List.drop_zero]at hnot;have hc:=h.cla c (zAC hk);obtain⟨h1,h2⟩:=h.ok c (zAC hk) a b ha hb;have hm:=h.wat.mem W hl k;have tk:s.trl.take (p+1)=s.trl.take p ++ [-W]:=by
   obtain⟨hlt,he⟩:=zAA.1 hW;rw[List.take_add_one,hW];rfl
  rw[tk];refine⟨fun hin=>?_,fun hin=>?_⟩
  ·rcases zBE.1 hin with hin | hin
   ·exact h1 hin
   ·have e:a=W:=by have:=zBD.1 hin;omega
    subst e;exact absurd (hm.2 ⟨c,hk, .inl ha⟩) hnot
  ·rcases zBE.1 hin with hin | hin
   ·exact h2 hin
   ·have e:b=W:=by have:=zBD.1 hin;omega
    subst e;exact absurd (hm.2 ⟨c,hk, .inr hb⟩) hnot
variable {W : Int} {old kept : List Nat} {i k : Nat} {c : List Int}
theorem Lp.eff(h:Lp n cs0 done p W old i kept s):(s.wat.set (pl W) (kept ++ old.drop i)).getD (pl W) []=kept ++ old.drop i:=by
 rw[getD_setL,if_pos ⟨rfl,by rw[h.wln];exact pl_lt h.lit⟩]
theorem aFe{old:List Nat}{i k:Nat}(hi:old[i]? =some k):old.drop i=k :: old.drop (i+1):=by
 obtain⟨hlt,he⟩:=zAA.1 hi;rw[List.drop_eq_getElem_cons hlt,he]
theorem Lp.look(h:Lp n cs0 done p W old i kept s)(hi:old[i]? =some k):∃c,s.cls[k]? =some c/\(c[0]? =some W\/c[1]? =some W)/\Cla n (cs0 ++ s.lrn) c:=by
 have h1:k∈kept ++ old.drop i:=by rw[aFe hi];simp
 rw[<-h.eff]at h1;obtain⟨c,hc,hw⟩:=(h.inv.wat.mem W h.lit k).1 h1;exact⟨c,hc,hw,h.inv.cla c (zAC hc)⟩
theorem Wat.turn{cls:List (List Int)}{wat:List (List Nat)}(h:Wat n cls wat){c':List Int}(hk:cls[k]? =some c)(he:∀l,(c'[0]? =some l\/c'[1]? =some l)↔(c[0]? =some l\/c[1]? =some l)):Wat n (cls.set k c') wat:=by
 refine⟨h.len,fun l hl j=>?_,h.nd⟩;rw[h.mem l hl j];have hlt:=(zAA.1 hk).1;constructor
 ·rintro⟨d,hd,hw⟩
  by_cases e:k=j
  ·subst e;rw[hk]at hd;obtain rfl:=zAH hd;exact⟨c',by rw[List.getElem?_set,if_pos rfl,if_pos hlt],(he l).2 hw⟩
  ·exact⟨d,by rw[List.getElem?_set,if_neg e];exact hd,hw⟩
 ·rintro⟨d,hd,hw⟩;rw[List.getElem?_set]at hd
  by_cases e:k=j
  ·subst e;rw[if_pos rfl,if_pos hlt]at hd;obtain rfl:=zAH hd;exact⟨c,hk,(he l).1 hw⟩
  ·rw[if_neg e]at hd;exact⟨d,hd,hw⟩
theorem aKi{c:List Int}{i j:Nat}{a b:Int}(hi:c[i]? =some a)(hj:c[j]? =some b):((c.set i b).set j a).Perm c:=by
 obtain⟨h1,e1⟩:=zAA.1 hi;obtain⟨h2,e2⟩:=zAA.1 hj;subst e1 e2;exact List.set_set_perm h1 h2
theorem aIe{c:List Int}{i j:Nat}{a b:Int}(hi:c[i]? =some a)(hj:c[j]? =some b)(m:Nat):((c.set i b).set j a)[m]? =if m=j then some a else if m=i then some b else c[m]? :=by
 have h1:=(zAA.1 hi).1;have h2:=(zAA.1 hj).1;rw[List.getElem?_set,List.getElem?_set];rw[zBC]
 by_cases e:m=j
 ·rw[if_pos e,if_pos e.symm,if_pos h2]
 ·rw[if_neg e,if_neg (Ne.symm e)]
  by_cases e2:m=i
  ·rw[if_pos e2,if_pos e2.symm,if_pos h1]
  ·rw[if_neg e2,if_neg (Ne.symm e2)]
theorem Lp.swap(h:Lp n cs0 done p W old i kept s)(hi:old[i]? =some k)(hc:s.cls[k]? =some c){b:Int}(h0:c[0]? =some W)(h1:c[1]? =some b):Lp n cs0 done p W old i kept {s with cls:=s.cls.set k ((c.set 0 b).set 1 W)}:=by
 have hcla:=h.inv.cla c (zAC hc);have e0:=aIe h0 h1 0;have e1:=aIe h0 h1 1;simp only[if_pos,if_neg (show¬(0:Nat)=1 by omega)]at e0 e1;refine⟨h.inv.turn hc (aKi h0 h1) (h.inv.wat.turn hc fun l=>?_) ?_,h.at_,?_,h.lit,h.wln⟩
 ·rw[e0,e1,h0,h1];exact⟨fun h=>h.symm,fun h=>h.symm⟩
 ·intro x y hx hy;rw[e0]at hx;rw[e1]at hy;obtain rfl:=zAH hx;obtain rfl:=zAH hy;exact(h.inv.ok c (zAC hc) _ _ h0 h1).symm
 ·intro j d hd hnot;rw[List.getElem?_set]at hd;split at hd
  ·rename_i e;subst e;rw[aFe hi]at hnot;exact absurd (List.mem_cons_self ..) hnot
  ·exact h.ok j d hd hnot
theorem Lp.wlv(h:Lp n cs0 done p W old i kept s):s.lvl.getD W.natAbs 0=s.lim.length:=by
 have:=h.inv.trl.levs p _ h.at_;rw[show(-W).natAbs=W.natAbs from by omega]at this;exact this.trans (aMc h.inv.p2)
theorem Lp.wval(h:Lp n cs0 done p W old i kept s):S.val s.val W= -1:=(h.inv.trl.neg h.lit).2 (zAC h.at_)
theorem Lp.lv_le(h:Lp n cs0 done p W old i kept s){a:Int}(ha:a∈s.trl):s.lvl.getD a.natAbs 0<=s.lim.length:=by
 obtain⟨j,hj⟩:=zAG ha;rw[h.inv.trl.levs j a hj];exact aHl _ _
theorem Lp.tk(h:Lp n cs0 done p W old i kept s):s.trl.take (p+1)=s.trl.take p ++ [-W]:=by
 rw[List.take_add_one,h.at_];rfl
theorem Lp.keep(h:Lp n cs0 done p W old i kept s)(hi:old[i]? =some k)(hc:s.cls[k]? =some c){a:Int}(h0:c[0]? =some a)(h1:c[1]? =some W)(hv:S.val s.val a=1):Lp n cs0 done p W old (i+1) (kept ++ [k]) s:=by
 have hcla:=h.inv.cla c (zAC hc);have e:kept ++ [k]++ old.drop (i+1)=kept ++ old.drop i:=by rw[aFe hi];simp
 refine⟨by rw[e];exact h.inv,h.at_,?_,h.lit,h.wln⟩;intro j d hd hnot
 by_cases ej:j=k
 ·subst ej;rw[hc]at hd;obtain rfl:=zAH hd;have ha:=(h.inv.trl.vals a (hcla.lit h0)).1 hv;intro x y hx hy;rw[h0]at hx;rw[h1]at hy;obtain rfl:=zAH hx;obtain rfl:=zAH hy;exact⟨fun hin=>absurd (List.mem_of_mem_take hin) fun hin=>h.inv.trl.not_both ha hin,fun _=>⟨hv,by rw[h.wlv];exact h.lv_le ha⟩⟩
 ·refine h.ok j d hd fun hin=>?_
  rw[aFe hi,zBF]at hin;exact hin.elim ej hnot
theorem Lp.told(h:Lp n cs0 done p W old i kept s)(hi:old[i]? =some k)(hc:s.cls[k]? =some c){a:Int}(h0:c[0]? =some a)(h1:c[1]? =some W)(hv:S.val s.val a=0)(hf:∀j m,2<=j->c[j]? =some m->S.val s.val m= -1):
 Lp n cs0 done p W old (i+1) (kept ++ [k]) (s.tell a k):=by
 have hcla:=h.inv.cla c (zAC hc);have la:=hcla.lit h0;have e:kept ++ [k]++ old.drop (i+1)=kept ++ old.drop i:=by rw[aFe hi];simp
 have hpt:p<s.trl.length:=(zAA.1 h.at_).1;have hinv:=h.inv.tell (r:=(k:Int)) la hv (.inr ⟨k,c,rfl,hc,zAC h0,fun m hm hne=>by
  obtain⟨j,hj⟩:=zAG hm;refine(h.inv.trl.neg (hcla.lit hj)).1 ?_;rcases Nat.lt_or_ge j 2 with h2 | h2
  ·rcases(show j=0\/j=1 by omega)with rfl | rfl
   ·rw[h0]at hj;exact absurd (zAH hj).symm hne
   ·rw[h1]at hj;obtain rfl:=zAH hj;exact h.wval
  ·exact hf j m h2 hj⟩)
 refine⟨by rw[e];exact hinv,?_,?_,h.lit,h.wln⟩
 ·show(s.trl ++ [a])[p]? =_
  rw[zAE hpt];exact h.at_
 intro j d hd hnot
 by_cases ej:j=k
 ·subst ej;have hd':s.cls[j]? =some d:=hd;rw[hc]at hd';obtain rfl:=zAH hd';intro x y hx hy;rw[h0]at hx;rw[h1]at hy;obtain rfl:=zAH hx;obtain rfl:=zAH hy;have hva:S.val (s.tell a j).val a=1:=by
   show S.val (put s.val a) a=1
   rw[aGu h.inv.trl.wf la la,if_pos rfl]
  refine⟨fun hin=>absurd (List.mem_of_mem_take hin) fun hin=>hinv.trl.not_both ((hinv.trl.vals a la).1 hva) hin,fun _=>⟨hva,?_⟩⟩
  show(s.lvl.set a.natAbs s.lim.length).getD a.natAbs 0<=(s.lvl.set a.natAbs s.lim.length).getD W.natAbs 0
  have hne:a.natAbs≠W.natAbs:=fun e=>by have:=hcla.inj h0 h1 e;omega
  have h5:=aBh la;have q1:(s.lvl.set a.natAbs s.lim.length).getD W.natAbs 0=s.lim.length:=by rw[aD5,if_neg (fun x=>hne x.1),h.wlv]
  have q2:(s.lvl.set a.natAbs s.lim.length).getD a.natAbs 0=s.lim.length:=by rw[aD5,if_pos ⟨rfl,by have:=h.inv.trl.len;simp at this;omega⟩]
  rw[q1,q2];exact zBJ _
 ·refine(h.ok j d hd fun hin=>?_).tell h.inv.trl (by show p+1<=s.trl.length;omega) (h.inv.cla d (zAC hd)) la hv _;rw[aFe hi,zBF]at hin;exact hin.elim ej hnot
theorem Lp.move(h:Lp n cs0 done p W old i kept s)(hi:old[i]? =some k)(hc:s.cls[k]? =some c){a b:Int}{j:Nat}(h0:c[0]? =some a)(h1:c[1]? =some W)(hj2:2<=j)(hj:c[j]? =some b)(hv:S.val s.val b≠-1):
 Lp n cs0 done p W old (i+1) kept {s with cls:=s.cls.set k ((c.set 1 b).set j W),wat:=s.wat.set (pl b) (s.wat.getD (pl b) []++ [k])}:=by
 have hcla:=h.inv.cla c (zAC hc);have la:=hcla.lit h0;have lb:=hcla.lit hj;have hkl:=(zAA.1 hc).1;have hbW:pl b≠pl W:=fun e=>by
  have:=aEt e (aAc lb);subst this;have:=hcla.inj h1 hj rfl;omega
 have hab:a≠b:=fun e=>by have:=hcla.inj h0 hj (by rw[e]);omega
 have haW:a≠W:=fun e=>by have:=hcla.inj h0 h1 (by rw[e]);omega
 have e0:=aIe h1 hj 0;have e1:=aIe h1 hj 1;rw[if_neg (by omega),if_neg (by omega),h0]at e0;rw[if_neg (by omega),if_pos rfl]at e1;have hwok:Wok s.val s.lvl s.trl (p+1) ((c.set 1 b).set j W):=by
  intro x y hx hy;rw[e0]at hx;rw[e1]at hy;obtain rfl:=zAH hx;obtain rfl:=zAH hy;refine⟨fun hin=>?_,fun hin=>absurd ((h.inv.trl.neg lb).2 (List.mem_of_mem_take hin)) hv⟩;rw[h.tk,zBE]at hin;rcases hin with hin | hin
  ·have:=((h.inv.ok c (zAC hc) a W h0 h1).1 hin).1;have h3:=h.wval;have h4:S.val s.val W=1:=this;omega
  ·have:=zBD.1 hin;omega
 have hwok':Wok s.val s.lvl s.trl p ((c.set 1 b).set j W):=by
  intro x y hx hy;obtain⟨q1,q2⟩:=hwok x y hx hy;rw[h.tk]at q1 q2;exact⟨fun hin=>q1 (zAO _ hin),fun hin=>q2 (zAO _ hin)⟩
 have hl1:pl b<s.wat.length:=by rw[h.wln];exact pl_lt lb
 have hl2:pl W<s.wat.length:=by rw[h.wln];exact pl_lt h.lit
 have hnd:=h.inv.wat.nd W h.lit;have heff:=h.eff;have hdr:=aFe hi;have hwat:Wat n (s.cls.set k ((c.set 1 b).set j W)) ((s.wat.set (pl b) (s.wat.getD (pl b) []++ [k])).set (pl W) (kept ++ old.drop (i+1))):=by
  have hself:∀l,isLit n l=true->l≠W->(s.wat.set (pl W) (kept ++ old.drop i)).getD (pl l) []=s.wat.getD (pl l) []:=by
   intro l hl hne;rw[getD_setL,if_neg (fun x=>hne (aEt x.1 (aAc h.lit)).symm)]
  have hget:∀l,isLit n l=true->((s.wat.set (pl b) (s.wat.getD (pl b) []++ [k])).set (pl W) (kept ++ old.drop (i+1))).getD (pl l) []=if l=W then kept ++ old.drop (i+1)else if l=b then s.wat.getD (pl b) []++ [k]else s.wat.getD (pl l) []:=by
   intro l hl;rw[getD_setL,getD_setL]
   by_cases e:l=W
   ·subst e;rw[if_pos ⟨rfl,by simpa using hl2⟩,if_pos rfl]
   ·rw[if_neg (fun x=>e (aEt x.1 (aAc h.lit)).symm),if_neg e]
    by_cases e2:l=b
    ·subst e2;rw[if_pos ⟨rfl,hl1⟩,if_pos rfl]
    ·rw[if_neg (fun x=>e2 (aEt x.1 (aAc lb)).symm),if_neg e2]
  have hset:∀q,(s.cls.set k ((c.set 1 b).set j W))[q]? =if k=q then some ((c.set 1 b).set j W)else s.cls[q]? :=by
   intro q;rw[List.getElem?_set]
   by_cases e:k=q
   ·rw[if_pos e,if_pos e,if_pos hkl]
   ·rw[if_neg e,if_neg e]
  have hbm:=h.inv.wat.mem b lb;rw[hself b lb (fun e=>hbW (by rw[e]))]at hbm;have hknb:k∉s.wat.getD (pl b) []:=fun hin=>by
   obtain⟨d,hd,hw⟩:=(hbm k).1 hin;have hd':s.cls[k]? =some d:=hd;rw[hc]at hd';obtain rfl:=zAH hd';rcases hw with hw | hw
   ·have:=hcla.inj hw hj rfl;omega
   ·have:=hcla.inj hw hj rfl;omega
  refine⟨by simp[h.wln],fun l hl q=>?_,fun l hl=>?_⟩
  ·rw[hget l hl,hset q];have hold:=h.inv.wat.mem l hl q
   by_cases e:l=W
   ·subst e;rw[if_pos rfl];rw[heff,hdr]at hold;rw[heff,hdr]at hnd
    by_cases eq:k=q
    ·subst eq;rw[if_pos rfl];constructor
     ·intro hin
      exfalso
      rw[List.nodup_append]at hnd;rcases zBE.1 hin with hin | hin
      ·exact hnd.2.2 k hin k (List.mem_cons_self ..) rfl
      ·exact(List.nodup_cons.1 hnd.2.1).1 hin
     ·rintro⟨d,hd,hw⟩;obtain rfl:=zAH hd
      exfalso
      rw[e0,e1]at hw;rcases hw with hw | hw
      ·exact haW (zAH hw)
      ·exact hbW (by rw[zAH hw])
    ·rw[if_neg eq,<-hold,zBE,zBE,zBF];constructor
     ·rintro(h | h)
      ·exact .inl h
      ·exact .inr (.inr h)
     ·rintro(h | h | h)
      ·exact .inl h
      ·exact absurd h.symm eq
      ·exact .inr h
   ·rw[if_neg e];rw[hself l hl e]at hold
    by_cases e2:l=b
    ·subst e2;rw[if_pos rfl,zBE,zBD]
     by_cases eq:k=q
     ·subst eq;rw[if_pos rfl];exact⟨fun _=>⟨_,rfl, .inr e1⟩,fun _=> .inr rfl⟩
     ·rw[if_neg eq,<-hold];exact⟨fun h=>h.resolve_right fun x=>eq x.symm, .inl⟩
    ·rw[if_neg e2,hold]
     by_cases eq:k=q
     ·subst eq;rw[if_pos rfl];constructor
      ·rintro⟨d,hd,hw⟩;have hd':s.cls[k]? =some d:=hd;rw[hc]at hd';obtain rfl:=zAH hd';rcases hw with hw | hw
       ·exact⟨_,rfl, .inl (e0.trans (h0.symm.trans hw))⟩
       ·rw[h1]at hw;exact absurd (zAH hw).symm e
      ·rintro⟨d,hd,hw⟩;obtain rfl:=zAH hd;rw[e0,e1]at hw;rcases hw with hw | hw
       ·exact⟨c,hc, .inl (h0.trans hw)⟩
       ·exact absurd (zAH hw).symm e2
     ·rw[if_neg eq]
  ·rw[hget l hl];have hold:=h.inv.wat.nd l hl
   by_cases e:l=W
   ·subst e;rw[if_pos rfl];rw[heff,hdr]at hold;rw[List.nodup_append]at hold⊢;exact⟨hold.1,(List.nodup_cons.1 hold.2.1).2,fun x hx y hy=>hold.2.2 x hx y (zAQ _ hy)⟩
   ·rw[if_neg e];rw[hself l hl e]at hold
    by_cases e2:l=b
    ·subst e2;rw[if_pos rfl,List.nodup_append];exact⟨hold,by simp,fun x hx y hy=>by rw[zBD.1 hy];rintro rfl;exact hknb hx⟩
    ·rw[if_neg e2];exact hold
 refine⟨h.inv.turn hc (aKi h1 hj) hwat hwok',h.at_,?_,h.lit,by simp[h.wln]⟩;intro q d hd hnot;rcases Nat.decEq k q with eq | eq
 ·have hd':s.cls[q]? =some d:=by
   have h9:(s.cls.set k ((c.set 1 b).set j W))[q]? =some d:=hd
   rwa [List.getElem?_set,if_neg eq]at h9
  refine h.ok q d hd' fun hin=>?_
  rw[hdr,zBF]at hin;exact hin.elim (fun x=>eq x.symm) hnot
 ·subst eq;have h9:(s.cls.set k ((c.set 1 b).set j W))[k]? =some d:=hd;rw[List.getElem?_set,if_pos rfl,if_pos hkl]at h9;obtain rfl:=zAH h9;exact hwok
theorem Lp.clash(h:Lp n cs0 done p W old i kept s)(hi:old[i]? =some k)(hc:s.cls[k]? =some c){a:Int}(h0:c[0]? =some a)(h1:c[1]? =some W)(hv:S.val s.val a= -1)(hf:∀j m,2<=j->c[j]? =some m->S.val s.val m= -1):
 Inv n cs0 done p {s with wat:=s.wat.set (pl W) (kept ++ [k]++ old.drop (i+1))}/\∀m∈c,S.val s.val m= -1:=by
 have e:kept ++ [k]++ old.drop (i+1)=kept ++ old.drop i:=by rw[aFe hi];simp
 refine⟨by rw[e];exact h.inv,fun m hm=>?_⟩;obtain⟨j,hj⟩:=zAG hm;rcases Nat.lt_or_ge j 2 with h2 | h2
 ·rcases(show j=0\/j=1 by omega)with rfl | rfl
  ·rw[h0]at hj;obtain rfl:=zAH hj;exact hv
  ·rw[h1]at hj;obtain rfl:=zAH hj;exact h.wval
 ·exact hf j m h2 hj
theorem Lp.fin(h:Lp n cs0 done p W old i kept s)(hi:old.length<=i):Inv n cs0 done (p+1) {s with wat:=s.wat.set (pl W) kept}:=by
 have e:old.drop i= []:=List.drop_of_length_le hi;have hinv:=h.inv;have hok:=h.ok;rw[e,List.append_nil]at hinv;rw[e]at hok;have hpt:p<s.trl.length:=(zAA.1 h.at_).1;refine⟨hinv.trl,hinv.rln,hinv.pln,hinv.phs,hinv.cla,hinv.rsn,hinv.wat,fun c hc=>?_,hpt,fun x hx=>Nat.le_succ_of_le (hinv.p2 x hx),hinv.cov,hinv.prf,hinv.lgd,hinv.big⟩;obtain⟨q,hq⟩:=zAG hc;exact hok q c hq (by simp)
end
end Go.Proofs.YtchdbhggbdcapaaGreat.S
end
