/- Part. -/
import Derived.Test.YtchdbhggbdcapaaGreatSuLX
import Derived.Test.YtchdbhggbdcapaaGreatSu03
set_option linter.unusedVariables false
set_option linter.unusedSimpArgs false
set_option maxRecDepth 100000
set_option maxHeartbeats 16000000
section
namespace Go.Proofs.YtchdbhggbdcapaaGreat.C
open S
def rowTo(n:Nat)(x:List Int)(yi:Int)(i:Nat)(b:Bd):Nat->List Int×Bd
 | 0=>(rep n (-1),b)
 | k+1=>((rowTo n x yi i b k).1.set (i+k) (and (x.getD k 0) yi (rowTo n x yi i b k).2).1,(and (x.getD k 0) yi (rowTo n x yi i b k).2).2)
def aAp(x y:List Int)(b:Bd):Nat->List Int×Bd
 | 0=>(rep x.length (-1),b)
 | i+1=>((sum (aAp x y b i).1 (rowTo x.length x (y.getD i 0) i (aAp x y b i).2 (x.length-i)).1 (-1) (rowTo x.length x (y.getD i 0) i (aAp x y b i).2 (x.length-i)).2).1.1,
  (sum (aAp x y b i).1 (rowTo x.length x (y.getD i 0) i (aAp x y b i).2 (x.length-i)).1 (-1) (rowTo x.length x (y.getD i 0) i (aAp x y b i).2 (x.length-i)).2).2)
def times(x y:List Int)(b:Bd):List Int×Bd:=aAp x y b x.length
theorem aNa{n:Nat}{x:List Int}{yi:Int}{i:Nat}{b:Bd}{k:Nat}(h:(rowTo n x yi i b k).2.full=false):b.full=false:=by
 induction k with
 | zero=>exact h
 | succ k ih=>exact ih (aCk h)
theorem aGh{n:Nat}{x:List Int}{yi:Int}{i:Nat}{b:Bd}{k:Nat}:(rowTo n x yi i b k).1.length=n:=by
 induction k with
 | zero=>simp[rowTo,rep]
 | succ k ih=>simp[rowTo,ih]
theorem bEp{b:Bd}{e:E}{w:List Int}{i j:Nat}{l:Int}(h:i<w.length):bt b e (w.set i l) j=if i=j then lsem b l e else bt b e w j:=by
 unfold bt;simp only[List.getD,List.getElem?_set]
 by_cases e1:i=j
 ·subst e1;simp[h]
 ·simp[e1]
theorem bA6{K:Nat}{b:Bd}{n:Nat}{x:List Int}{yi:Int}{i:Nat}(hb:Ok K b)(hx:Wd b x)(hxl:x.length=n)(hy:isLit b.n yi=true){k:Nat}(hk:i+k<=n)(hf:(rowTo n x yi i b k).2.full=false):
 WSp K b (rowTo n x yi i b k) n/\∀e j,j<n->bt (rowTo n x yi i b k).2 e (rowTo n x yi i b k).1 j=(decide (i<=j) && decide (j<i+k) && bt b e x (j-i) && lsem b yi e):=by
 induction k with
 | zero=>
  refine⟨⟨hb,Le.refl _,Wd.rep (aAm hb.lit1),aGh⟩,fun e j hj=>?_⟩
  show bt b e (List.replicate n (-1)) j=_
  rw[aRc hj,hb.no]
  by_cases h:i<=j <;> simp[h] <;> omega
 | succ k ih=>
  obtain⟨⟨h1,h2,h3,h4⟩,h5⟩:=ih (by omega) (aCk hf);have lx:=hx.at_ (i:=k) (by omega);obtain⟨g1,g2,g3,g4⟩:=aGg h1 (aAr lx h2.n) (aAr hy h2.n) hf;refine⟨⟨g1,h2.trans g2,(h3.up g2).set g3 _,aGh⟩,fun e j hj=>?_⟩;have g5:=g4 e;simp only at g5;rw[h2.sem _ lx,h2.sem _ hy]at g5
  show bt (and (x.getD k 0) yi (rowTo n x yi i b k).2).2 e ((rowTo n x yi i b k).1.set (i+k) (and (x.getD k 0) yi (rowTo n x yi i b k).2).1) j=_
  rw[bEp (by rw[h4];omega)]
  by_cases e1:i+k=j
  ·rw[if_pos e1,g5];subst e1;have:i+k-i=k:=by omega
   rw[this];unfold bt;simp
  ·rw[if_neg e1,bt_le g2 h3 (by rw[h4];exact hj),h5 e j hj];have:decide (j<i+(k+1))=decide (j<i+k):=by
    rw[decide_eq_decide];omega
   rw[this]
theorem aRg{x y:List Int}{b:Bd}{i:Nat}(h:(aAp x y b i).2.full=false):b.full=false:=by
 induction i with
 | zero=>exact h
 | succ i ih=>exact ih (aNa (aE5 h))
theorem aWc{K:Nat}{b:Bd}{x y:List Int}(hb:Ok K b)(hx:Wd b x)(hy:Wd b y)(hl:x.length=y.length){i:Nat}(hi:i<=x.length)(hf:(aAp x y b i).2.full=false):
 WSp K b (aAp x y b i) x.length/\∀e,wv (aAp x y b i).2 e (aAp x y b i).1=(wv b e x* (wv b e y % 2 ^ i)) % 2 ^ x.length:=by
 induction i with
 | zero=>
  refine⟨⟨hb,Le.refl _,Wd.rep (aAm hb.lit1),by simp[aAp,rep]⟩,fun e=>?_⟩
  show wv b e (List.replicate x.length (-1))=_
  rw[aJ6,hb.no];simp[bit,Nat.mod_one]
 | succ i ih=>
  have f2:=aE5 hf;obtain⟨⟨h1,h2,h3,h4⟩,h5⟩:=ih (by omega) (aNa f2);have ly:=hy.at_ (i:=i) (by omega);obtain⟨⟨r1,r2,r3,r4⟩,r5⟩:=bA6 (i:=i) (k:=x.length-i) h1 (hx.up h2) rfl (aAr ly h2.n) (by omega) f2;obtain⟨⟨s1,s2,s3,s4,s5⟩,s6⟩:=aIb r1 (aAm r1.lit1) (h3.up r2) r3 (h4.trans r4.symm) hf;refine⟨⟨s1,h2.trans (r2.trans s2),s3,s4.trans h4⟩,fun e=>?_⟩;have k1:=s6 e;have k2:=wv_lt (aAp x y b (i+1)).2 e (aAp x y b (i+1)).1;have k3:(aAp x y b (i+1)).1.length=x.length:=s4.trans h4;rw[k3]at k2;have hrow:wv (rowTo x.length x (y.getD i 0) i (aAp x y b i).2 (x.length-i)).2 e (rowTo x.length x (y.getD i 0) i (aAp x y b i).2 (x.length-i)).1=bit (bt b e y i)* (wv b e x*2 ^ i % 2 ^ x.length):=by
   apply Nat.eq_of_testBit_eq;intro j;rw[aAx,r4]
   by_cases hj:j<x.length
   ·rw[r5 e j hj,h2.sem _ ly];have e1:decide (j<i+(x.length-i))=true:=by simp;omega
    have e2:(wv b e x*2 ^ i % 2 ^ x.length).testBit j=(decide (i<=j) && bt b e x (j-i)):=by
     rw[Nat.testBit_mod_two_pow,Nat.testBit_mul_two_pow,aAx];have:decide (j-i<x.length)=true:=by simp;omega
     rw[this];simp[hj]
    have e3:(decide (i<=j) && bt (aAp x y b i).2 e x (j-i))=(decide (i<=j) && bt b e x (j-i)):=by
     rw[bt_le h2 hx (by omega)]
    rw[e1];unfold bt at*;cases hv:lsem b (y.getD i 0) e
    ·simp[bit]
    ·simp only[bit,if_true,Nat.one_mul,e2,Bool.and_true];simp only[hj,decide_true,Bool.true_and];exact e3
   ·simp only[hj,decide_false,Bool.false_and]
    symm
    apply Nat.testBit_lt_two_pow;have h9:=Nat.mod_lt (wv b e x*2 ^ i) (Nat.two_pow_pos x.length);have h8:2 ^ x.length<=2 ^ j:=zAJ (by decide) (by omega);have h7:=aFp (bt b e y i);rcases(show bit (bt b e y i)=0\/bit (bt b e y i)=1 by omega)with h | h <;> rw[h] <;> simp <;> first | exact Nat.two_pow_pos j | omega
  rw[r1.no,wv_le r2 h3,h5 e,hrow,h4]at k1;have e0:bit false=0:=rfl;rw[e0,zBI]at k1;have k4:(wv b e y % 2 ^ (i+1))=wv b e y % 2 ^ i+2 ^ i*bit (bt b e y i):=by
   rw[<-aEr,<-aEr,aG6 b e y (by omega)]
  have k5:wv (aAp x y b (i+1)).2 e (aAp x y b (i+1)).1=(wv b e x* (wv b e y % 2 ^ i) % 2 ^ x.length+bit (bt b e y i)* (wv b e x*2 ^ i % 2 ^ x.length)) % 2 ^ x.length:=by
   rw[<-k1]
   show wv (aAp x y b (i+1)).2 e (aAp x y b (i+1)).1=(wv (aAp x y b (i+1)).2 e (aAp x y b (i+1)).1+_) % _
   rw[Nat.add_mul_mod_self_left,zAU k2]
  rw[k5,k4,Nat.mul_add];have h7:=aFp (bt b e y i);rcases(show bit (bt b e y i)=0\/bit (bt b e y i)=1 by omega)with h | h
  ·rw[h];simp
  ·rw[h,Nat.one_mul,Nat.mul_one,<-Nat.add_mod]
theorem aWd{x y:List Int}{b:Bd}(h:(times x y b).2.full=false):b.full=false:=aRg h
theorem bA7{K:Nat}{b:Bd}{x y:List Int}(hb:Ok K b)(hx:Wd b x)(hy:Wd b y)(hl:x.length=y.length)(hf:(times x y b).2.full=false):
 WSp K b (times x y b) x.length/\∀e,wv (times x y b).2 e (times x y b).1=(wv b e x*wv b e y) % 2 ^ x.length:=by
 obtain⟨h1,h2⟩:=aWc hb hx hy hl (zBJ _) hf;refine⟨h1,fun e=>?_⟩;have h3:=h2 e;have h4:=wv_lt b e y;rw[<-hl]at h4;rw[zAU h4]at h3;exact h3
structure DS where
 q:List Int
 r:List Int
 b:Bd
def aFb(x y:List Int)(i:Nat)(d:DS):DS:=
 let next:=x.getD i 0 :: d.r
 let s:=sum next (notw (y ++ [-1])) 1 d.b
 let p:=picks s.1.2 (s.1.1.take x.length) (next.take x.length) s.2
 ⟨d.q.set i s.1.2,p.1,p.2⟩
def divTo(x y:List Int)(b:Bd):Nat->DS
 | 0=>⟨rep x.length (-1),rep x.length (-1),b⟩
 | j+1=>aFb x y (x.length-1-j) (divTo x y b j)
def aA8(x y:List Int)(b:Bd):DS:=divTo x y b x.length
theorem aJ8{x y:List Int}{i:Nat}{d:DS}(h:(aFb x y i d).b.full=false):d.b.full=false:=aE5 (aCy h)
theorem aWe{x y:List Int}{b:Bd}{j:Nat}(h:(divTo x y b j).b.full=false):b.full=false:=by
 induction j with
 | zero=>exact h
 | succ j ih=>exact ih (aJ8 h)
def qv(X Y j:Nat):Nat:=if Y=0 then 2 ^ j-1 else X / Y
structure DSp(K:Nat)(b:Bd)(x y:List Int)(d:DS)(j:Nat)(qs:List Int):Prop where
 ok:Ok K d.b
 le:Le b d.b
 q:d.q=rep (x.length-j) (-1)++ qs
 ql:qs.length=j
 wq:Wd d.b qs
 wr:Wd d.b d.r
 rl:d.r.length=x.length
 qv:∀e,wv d.b e qs=C.qv (wv b e x / 2 ^ (x.length-j)) (wv b e y) j
 rv:∀e,wv d.b e d.r=(wv b e x / 2 ^ (x.length-j)) % wv b e y
theorem bDk{X Y j v:Nat}(hv:v<=1):qv (2*X+v) Y (j+1)=2*qv X Y j+(if Y<=v+2* (X % Y)then 1 else 0):=by
 unfold qv
 by_cases h:Y=0
 ·subst h;rw[if_pos rfl,if_pos rfl,if_pos (zBL _),Nat.pow_succ];have:=Nat.two_pow_pos j;omega
 ·rw[if_neg h,if_neg h];have hpos:0<Y:=Nat.pos_of_ne_zero h;have h1:=Nat.div_add_mod X Y;have h2:=Nat.mod_lt X hpos;have h3:2*X+v=(v+2* (X % Y))+Y* (2* (X / Y)):=by
   have:Y* (2* (X / Y))=2* (Y* (X / Y)):=by rw[Nat.mul_left_comm]
   omega
  rw[h3,Nat.add_mul_div_left _ _ hpos]
  by_cases h4:Y<=v+2* (X % Y)
  ·rw[if_pos h4];have:(v+2* (X % Y)) / Y=1:=by
    rw[Nat.div_eq_iff (by omega)];omega
   omega
  ·rw[if_neg h4,Nat.div_eq_of_lt (by omega)];omega
theorem bDl{X Y v:Nat}(hv:v<=1):(2*X+v) % Y=if Y<=v+2* (X % Y)then v+2* (X % Y)-Y else v+2* (X % Y):=by
 by_cases h:Y=0
 ·subst h;simp;omega
 ·have hpos:0<Y:=Nat.pos_of_ne_zero h;have h1:=Nat.div_add_mod X Y;have h2:=Nat.mod_lt X hpos;have h3:2*X+v=(v+2* (X % Y))+Y* (2* (X / Y)):=by
   have:Y* (2* (X / Y))=2* (Y* (X / Y)):=by rw[Nat.mul_left_comm]
   omega
  rw[h3,Nat.add_mul_mod_self_left]
  by_cases h4:Y<=v+2* (X % Y)
  ·rw[if_pos h4,Nat.mod_eq_sub_mod h4,zAU (by omega)]
  ·rw[if_neg h4,zAU (by omega)]
theorem aL8(b:Bd)(e:E)(x:List Int){i:Nat}(hi:i<x.length):wv b e x / 2 ^ i=2* (wv b e x / 2 ^ (i+1))+bit (bt b e x i):=by
 have h1:wv b e x / 2 ^ (i+1)=wv b e x / 2 ^ i / 2:=by rw[Nat.div_div_eq_div_mul,Nat.pow_succ]
 have h2:(wv b e x).testBit i=bt b e x i:=by rw[aAx];simp[hi]
 rw[h1,<-h2];unfold bit;rw[Nat.testBit_eq_decide_div_mod_eq];simp only[zBQ];split <;> omega
theorem bA8{K:Nat}{b:Bd}{x y:List Int}(hb:Ok K b)(hx:Wd b x)(hy:Wd b y)(hl:x.length=y.length){j:Nat}(hj:j<=x.length)(hf:(divTo x y b j).b.full=false):∃qs,DSp K b x y (divTo x y b j) j qs:=by
 induction j with
 | zero=>
  refine⟨[],hb,Le.refl _,by simp[divTo],rfl,Wd.nil_ _,Wd.rep (aAm hb.lit1),by simp[divTo,rep],fun e=>?_,fun e=>?_⟩
  ·rw[Nat.sub_zero,Nat.div_eq_of_lt (wv_lt b e x)];unfold qv;split <;> simp[wv]
  ·rw[Nat.sub_zero,Nat.div_eq_of_lt (wv_lt b e x),Nat.zero_mod]
   show wv b e (List.replicate x.length (-1))=0
   rw[aJ6,hb.no];simp[bit]
 | succ j ih=>
  have hf0:(aFb x y (x.length-1-j) (divTo x y b j)).b.full=false:=hf;obtain⟨qs,h⟩:=ih (by omega) (aJ8 hf0);generalize hd:divTo x y b j=d at h hf0;have hgoal:divTo x y b (j+1)=aFb x y (x.length-1-j) d:=by show aFb x y (x.length-1-j) (divTo x y b j)=_;rw[hd]
  rw[hgoal];clear hgoal hd hf ih;have hin:x.length-1-j<x.length:=by omega
  generalize hi:x.length-1-j=i at hf0 hin⊢;have lx:=hx.at_ hin;have hwy:Wd d.b (notw (y ++ [-1])):=aK7 ((hy.up h.le).snoc (aAm h.ok.lit1));have hnx:Wd d.b (x.getD i 0 :: d.r):=h.wr.cons (aAr lx h.le.n);obtain⟨⟨s1,s2,s3,s4,s5⟩,s6⟩:=aIb h.ok h.ok.lit1 hnx hwy (by rw[aBy];simp[h.rl,hl]) (aCy hf0);obtain⟨⟨p1,p2,p3,p4⟩,_,p5⟩:=aHi s1 s5 (s3.take x.length) ((hnx.up s2).take x.length) (by
   rw[zAZ,zAZ,s4]) hf0
  have hln:(x.getD i 0 :: d.r).length=x.length+1:=by simp[h.rl]
  rw[hln]at s4 s6;have hset:d.q.set i (sum (x.getD i 0 :: d.r) (notw (y ++ [-1])) 1 d.b).1.2=rep (x.length- (j+1)) (-1)++((sum (x.getD i 0 :: d.r) (notw (y ++ [-1])) 1 d.b).1.2 :: qs):=by
   rw[h.q];have e1:x.length-j=(x.length- (j+1))+1:=by omega
   have e2:i=x.length- (j+1):=by omega
   rw[e1,e2];unfold rep;rw[List.replicate_succ',zBT,List.set_append_right _ _ (by simp)];simp
  have hnum:∀e,let N:=bit (bt b e x i)+2*wv d.b e d.r;let fits:=(sum (x.getD i 0 :: d.r) (notw (y ++ [-1])) 1 d.b).1.2
   (lsem (sum (x.getD i 0 :: d.r) (notw (y ++ [-1])) 1 d.b).2 fits e=decide (wv b e y<=N))/\
   wv (sum (x.getD i 0 :: d.r) (notw (y ++ [-1])) 1 d.b).2 e (sum (x.getD i 0 :: d.r) (notw (y ++ [-1])) 1 d.b).1.1=if wv b e y<=N then N-wv b e y else N+2 ^ (x.length+1)-wv b e y:=by
   intro e N fits;have k1:=s6 e;have k2:=aG7 ((hy.up h.le).snoc (aAm h.ok.lit1)) e;have k3:wv d.b e (y ++ [-1])=wv b e y:=by
    rw[aOj,h.ok.no,wv_le h.le hy];simp[bit]
   have k4:wv d.b e (x.getD i 0 :: d.r)=N:=by
    rw[wv,h.le.sem _ lx];rfl
   have k5:=wv_lt (sum (x.getD i 0 :: d.r) (notw (y ++ [-1])) 1 d.b).2 e (sum (x.getD i 0 :: d.r) (notw (y ++ [-1])) 1 d.b).1.1;have k6:(y ++ [(-1:Int)]).length=x.length+1:=by simp[hl]
   have k7:=wv_lt d.b e (x.getD i 0 :: d.r);rw[hln,k4]at k7;rw[s4]at k5;rw[k3,k6]at k2;rw[k4,h.ok.one]at k1;have e1:bit true=1:=rfl;have e0:bit false=0:=rfl;rw[e1]at k1
   show lsem _ (sum (x.getD i 0 :: d.r) (notw (y ++ [-1])) 1 d.b).1.2 e=_/\_
   cases hc:lsem (sum (x.getD i 0 :: d.r) (notw (y ++ [-1])) 1 d.b).2 (sum (x.getD i 0 :: d.r) (notw (y ++ [-1])) 1 d.b).1.2 e
   ·rw[hc,e0,Nat.mul_zero,zBI]at k1;have:¬wv b e y<=N:=by omega
    rw[if_neg this];exact⟨by simpa using this,by omega⟩
   ·rw[hc,e1,Nat.mul_one]at k1;have:wv b e y<=N:=by omega
    rw[if_pos this];exact⟨by simpa using this,by omega⟩
  have hjj:x.length- (j+1)=i:=by omega
  have hj1:x.length-j=i+1:=by omega
  refine⟨(sum (x.getD i 0 :: d.r) (notw (y ++ [-1])) 1 d.b).1.2 :: qs,p1,h.le.trans (s2.trans p2),hset,by simp[h.ql],((h.wq.up s2).cons s5).up p2,p3,?_,fun e=>?_,fun e=>?_⟩
  ·show(picks _ _ _ _).1.length=x.length
   rw[p4,zAZ,s4];omega
  ·show wv (picks (sum (x.getD i 0 :: d.r) (notw (y ++ [-1])) 1 d.b).1.2 ((sum (x.getD i 0 :: d.r) (notw (y ++ [-1])) 1 d.b).1.1.take x.length) ((x.getD i 0 :: d.r).take x.length) (sum (x.getD i 0 :: d.r) (notw (y ++ [-1])) 1 d.b).2).2 e (_ :: qs)=_
   rw[wv,wv_le p2 (h.wq.up s2),wv_le s2 h.wq,p2.sem _ s5,(hnum e).1,h.qv e,hjj,hj1,aL8 b e x hin,bDk (aFp _),h.rv e,hj1];unfold bit;simp only[zBQ];split <;> omega
  ·show wv (picks (sum (x.getD i 0 :: d.r) (notw (y ++ [-1])) 1 d.b).1.2 ((sum (x.getD i 0 :: d.r) (notw (y ++ [-1])) 1 d.b).1.1.take x.length) ((x.getD i 0 :: d.r).take x.length) (sum (x.getD i 0 :: d.r) (notw (y ++ [-1])) 1 d.b).2).2 e _=_
   refine(p5 e).trans ?_;rw[aEr,aEr,(hnum e).1,(hnum e).2,wv_le s2 hnx,wv,h.le.sem _ lx,hjj,aL8 b e x hin,bDl (aFp _),<-hj1,<-h.rv e];have kx:=wv_lt d.b e d.r;rw[h.rl]at kx;have ky:=wv_lt b e y;rw[<-hl]at ky;have hr:=h.rv e;rw[hj1]at hr
   show(if decide (wv b e y<=bit (bt b e x i)+2*wv d.b e d.r)=true then _ else(bit (bt b e x i)+2*wv d.b e d.r) % _)=_
   simp only[zBQ];have hsmall:wv b e y≠0->wv d.b e d.r<wv b e y:=fun h0=>by rw[hr];exact Nat.mod_lt _ (Nat.pos_of_ne_zero h0)
   have hzero:wv b e y=0->bit (bt b e x i)+2*wv d.b e d.r<2 ^ x.length:=fun h0=>by
    have h9:=aL8 b e x hin;rw[h0,Nat.mod_zero]at hr;have h8:wv b e x / 2 ^ i<=wv b e x:=Nat.div_le_self _ _;have h7:=wv_lt b e x;omega
   have hb1:=aFp (bt b e x i)
   by_cases hc:wv b e y<=bit (bt b e x i)+2*wv d.b e d.r
   ·rw[if_pos hc,if_pos hc,if_pos hc];apply zAU
    by_cases h0:wv b e y=0
    ·have:=hzero h0;omega
    ·have:=hsmall h0;omega
   ·rw[if_neg hc,if_neg hc];apply zAU;omega
theorem aF9{x y:List Int}{b:Bd}(h:(aA8 x y b).b.full=false):b.full=false:=aWe h
theorem aJ9{K:Nat}{b:Bd}{x y:List Int}(hb:Ok K b)(hx:Wd b x)(hy:Wd b y)(hl:x.length=y.length)(hf:(aA8 x y b).b.full=false):
 Ok K (aA8 x y b).b/\Le b (aA8 x y b).b/\Wd (aA8 x y b).b (aA8 x y b).q/\Wd (aA8 x y b).b (aA8 x y b).r/\(aA8 x y b).q.length=x.length/\(aA8 x y b).r.length=x.length/\
 ∀e,wv (aA8 x y b).b e (aA8 x y b).q=(if wv b e y=0 then 2 ^ x.length-1 else wv b e x / wv b e y)/\wv (aA8 x y b).b e (aA8 x y b).r=wv b e x % wv b e y:=by
 obtain⟨qs,h⟩:=bA8 hb hx hy hl (zBJ _) hf;have hq:(divTo x y b x.length).q=qs:=by rw[h.q];simp[rep]
 refine⟨h.ok,h.le,by show Wd _ (divTo x y b x.length).q;rw[hq];exact h.wq,h.wr,by show(divTo x y b x.length).q.length=_;rw[hq];exact h.ql,h.rl,fun e=>⟨?_,?_⟩⟩
 ·show wv _ e (divTo x y b x.length).q=_
  rw[hq];have:=h.qv e;rw[zBG,Nat.pow_zero,Nat.div_one]at this;exact this
 ·have:=h.rv e;rw[zBG,Nat.pow_zero,Nat.div_one]at this;exact this
def moved(n k:Nat)(in_:Int)(out:List Int):List Int:=if k<6/\2 ^ k<n then List.replicate (2 ^ k) in_ ++ out.take (n-2 ^ k)else List.replicate n in_
def aA4(x by_:List Int)(in_:Int)(b:Bd):Nat->List Int×Bd
 | 0=>(x,b)
 | k+1=>picks (by_.getD k 0) (moved x.length k in_ (aA4 x by_ in_ b k).1) (aA4 x by_ in_ b k).1 (aA4 x by_ in_ b k).2
def shift(x by_:List Int)(in_:Int)(b:Bd):List Int×Bd:=aA4 x by_ in_ b by_.length
theorem aRh{x by_:List Int}{in_:Int}{b:Bd}{k:Nat}(h:(aA4 x by_ in_ b k).2.full=false):b.full=false:=by
 induction k with
 | zero=>exact h
 | succ k ih=>exact ih (aCy h)
theorem aKa{n k:Nat}{in_:Int}{out:List Int}(h:out.length=n):(moved n k in_ out).length=n:=by
 unfold moved;generalize 2 ^ k=P;split
 ·rw[zAX,zBN,zAZ];omega
 ·simp
theorem aWf{K:Nat}{b:Bd}{x by_:List Int}{in_:Int}(hb:Ok K b)(hx:Wd b x)(hy:Wd b by_)(hi:isLit b.n in_=true)(hn:x.length<=64){k:Nat}(hk:k<=by_.length)(hf:(aA4 x by_ in_ b k).2.full=false):
 WSp K b (aA4 x by_ in_ b k) x.length/\∀e j,j<x.length->bt (aA4 x by_ in_ b k).2 e (aA4 x by_ in_ b k).1 j=if j<wv b e (by_.take k)then lsem b in_ e else bt b e x (j-wv b e (by_.take k)):=by
 induction k with
 | zero=>exact⟨⟨hb,Le.refl _,hx,rfl⟩,fun e j hj=>by simp[wv,aA4]⟩
 | succ k ih=>
  obtain⟨⟨h1,h2,h3,h4⟩,h5⟩:=ih (by omega) (aCy hf);have lb:=hy.at_ (i:=k) (by omega);have hmw:Wd (aA4 x by_ in_ b k).2 (moved x.length k in_ (aA4 x by_ in_ b k).1):=by
   unfold moved;split
   ·exact(Wd.rep (aAr hi h2.n)).append (h3.take _)
   ·exact Wd.rep (aAr hi h2.n)
  have hml:=aKa (k:=k) (in_:=in_) h4;obtain⟨⟨p1,p2,p3,p4⟩,p5,_⟩:=aHi h1 (aAr lb h2.n) hmw h3 (hml.trans h4.symm) hf;refine⟨⟨p1,h2.trans p2,p3,p4.trans hml⟩,fun e j hj=>?_⟩;have q1:=p5 e j (by rw[hml];exact hj)
  show bt (picks (by_.getD k 0) (moved x.length k in_ (aA4 x by_ in_ b k).1) (aA4 x by_ in_ b k).1 (aA4 x by_ in_ b k).2).2 e _ j=_
  refine q1.trans ?_;rw[h2.sem _ lb,aG6 b e by_ (by omega)];have hbt:bt b e by_ k=lsem b (by_.getD k 0) e:=rfl;rw[hbt];cases hv:lsem b (by_.getD k 0) e
  ·rw[if_neg (by decide),h5 e j hj];simp[bit]
  ·rw[if_pos rfl];have e1:bit true=1:=rfl;rw[e1,Nat.mul_one];have hmv:bt (aA4 x by_ in_ b k).2 e (moved x.length k in_ (aA4 x by_ in_ b k).1) j=if j<2 ^ k then lsem b in_ e else bt (aA4 x by_ in_ b k).2 e (aA4 x by_ in_ b k).1 (j-2 ^ k):=by
    unfold moved
    by_cases hc:k<6/\2 ^ k<x.length
    ·rw[if_pos hc,aM6,zBN]
     by_cases hj2:j<2 ^ k
     ·rw[if_pos hj2,if_pos hj2,aRc hj2,h2.sem _ hi]
     ·rw[if_neg hj2,if_neg hj2,bDi (by generalize 2 ^ k=P at *;omega)]
    ·rw[if_neg hc,aRc hj,h2.sem _ hi,if_pos];rcases Nat.lt_or_ge k 6 with h6 | h6
     ·have:¬2 ^ k<x.length:=fun h=>hc ⟨h6,h⟩
      omega
     ·have:2 ^ 6<=2 ^ k:=zAJ (by decide) h6;have e64:2 ^ 6=64:=rfl;omega
   rw[hmv]
   by_cases hj2:j<2 ^ k
   ·rw[if_pos hj2,if_pos (by omega)]
   ·rw[if_neg hj2,h5 e (j-2 ^ k) (Nat.lt_of_le_of_lt (Nat.sub_le _ _) hj)];clear hmv q1 p5 h5;generalize 2 ^ k=P at*
    by_cases hj3:j-P<wv b e (by_.take k)
    ·rw[if_pos hj3,if_pos (by omega)]
    ·rw[if_neg hj3,if_neg (by omega)]
     congr 1
     omega
theorem aIl{x by_:List Int}{in_:Int}{b:Bd}(h:(shift x by_ in_ b).2.full=false):b.full=false:=aRh h
theorem aRi{K:Nat}{b:Bd}{x by_:List Int}{in_:Int}(hb:Ok K b)(hx:Wd b x)(hy:Wd b by_)(hi:isLit b.n in_=true)(hn:x.length<=64)(hf:(shift x by_ in_ b).2.full=false):
 WSp K b (shift x by_ in_ b) x.length/\∀e j,j<x.length->bt (shift x by_ in_ b).2 e (shift x by_ in_ b).1 j=if j<wv b e by_ then lsem b in_ e else bt b e x (j-wv b e by_):=by
 obtain⟨h1,h2⟩:=aWf hb hx hy hi hn (zBJ _) hf;refine⟨h1,fun e j hj=>?_⟩;have:=h2 e j hj;rw[List.take_length]at this;exact this
theorem aYh{b:Bd}{e:E}{w:List Int}{j:Nat}(h:j<w.length):bt b e w.reverse j=bt b e w (w.length-1-j):=by
 unfold bt;simp only[List.getD];rw[List.getElem?_reverse h]
theorem aYi{b:Bd}{w:List Int}(h:Wd b w):Wd b w.reverse:=fun l hl=>h l (List.mem_reverse.1 hl)
def aB4(x by_:List Int)(in_:Int)(b:Bd):List Int×Bd:=((shift x.reverse by_ in_ b).1.reverse,(shift x.reverse by_ in_ b).2)
theorem aPg{K:Nat}{b:Bd}{x by_:List Int}{in_:Int}(hb:Ok K b)(hx:Wd b x)(hy:Wd b by_)(hi:isLit b.n in_=true)(hn:x.length<=64)(hf:(aB4 x by_ in_ b).2.full=false):
 WSp K b (aB4 x by_ in_ b) x.length/\∀e j,j<x.length->bt (aB4 x by_ in_ b).2 e (aB4 x by_ in_ b).1 j=if j+wv b e by_<x.length then bt b e x (j+wv b e by_)else lsem b in_ e:=by
 obtain⟨⟨h1,h2,h3,h4⟩,h5⟩:=aRi hb (aYi hx) hy hi (by simpa using hn) hf;rw[List.length_reverse]at h4 h5;refine⟨⟨h1,h2,aYi h3,by show(shift x.reverse by_ in_ b).1.reverse.length=_;rw[List.length_reverse];exact h4⟩,fun e j hj=>?_⟩
 show bt (shift x.reverse by_ in_ b).2 e (shift x.reverse by_ in_ b).1.reverse j=_
 rw[aYh (by rw[h4];exact hj),h4,h5 e _ (by omega)]
 by_cases hc:j+wv b e by_<x.length
 ·rw[if_neg (by omega),if_pos hc,aYh (by omega)]
  congr 1
  omega
 ·rw[if_pos (by omega),if_neg hc]
end Go.Proofs.YtchdbhggbdcapaaGreat.C
end
section
namespace Go.Proofs.YtchdbhggbdcapaaGreat.C
open S
theorem aK8(b:Bd)(e:E){x:List Int}{m:Nat}(h:x.length=m+1):wv b e x=wv b e (x.take m)+2 ^ m*bit (lsem b (lastL x) e)/\wv b e (x.take m) < 2 ^ m:=by
 have h1:=aG6 b e x (i:=m) (by omega);rw[zAK (by omega)]at h1;have h2:bt b e x m=lsem b (lastL x) e:=by
  unfold bt lastL;rw[h];rfl
 rw[h2]at h1;have h3:=wv_lt b e (x.take m);rw[zAZ,Nat.min_eq_left (by omega)]at h3;exact⟨h1,h3⟩
theorem pw_of(n:Nat):B.pw (n:Int)=((2 ^ n:Nat):Int):=by rw[B.aDa];simp
theorem bDm(m:Nat):B.pw (((m+1:Nat):Int)-1)=((2 ^ m:Nat):Int):=by
 rw[show((m+1:Nat):Int)-1=(m:Int) by omega,pw_of]
theorem sg_of(b:Bd)(e:E){x:List Int}{m:Nat}(h:x.length=m+1):B.sg (x.length:Int) (wv b e x:Int)=if lsem b (lastL x) e=true then(wv b e x:Int)- ((2 ^ (m+1):Nat):Int)else(wv b e x:Int):=by
 obtain⟨h1,h2⟩:=aK8 b e h;unfold B.sg;rw[h,bDm,pw_of];cases hv:lsem b (lastL x) e
 ·rw[hv]at h1;have e0:bit false=0:=rfl;rw[e0]at h1;rw[if_neg (by omega),if_neg (by decide)]
 ·rw[hv]at h1;have e1:bit true=1:=rfl;rw[e1]at h1;rw[if_pos (by omega),if_pos rfl]
def flip(x:List Int):List Int:=x.set (x.length-1) (-(lastL x))
theorem aU4{b:Bd}{x:List Int}(hx:Wd b x)(h0:0<x.length):Wd b (flip x):=hx.set (aAm (aDz hx h0)) _
theorem aD1(x:List Int):(flip x).length=x.length:=by simp[flip]
theorem aU5{b:Bd}{x:List Int}(hx:Wd b x)(e:E){m:Nat}(h:x.length=m+1):(wv b e (flip x):Int)=B.sg (x.length:Int) (wv b e x:Int)+((2 ^ m:Nat):Int):=by
 obtain⟨h1,h2⟩:=aK8 b e h;obtain⟨g1,_⟩:=aK8 b e (x:=flip x) (m:=m) (by rw[aD1];exact h);have e1:(flip x).take m=x.take m:=by
  unfold flip;rw[h,Nat.add_sub_cancel,List.take_set_of_le (zBJ _)]
 have e2:lastL (flip x)= -(lastL x):=by
  unfold lastL;rw[aD1];unfold flip;rw[aC3,if_pos ⟨rfl,by omega⟩];rfl
 rw[e1,e2,aAn b (aAc (aDz hx (by omega)))]at g1;rw[sg_of b e h,g1,h1,Nat.pow_succ];cases hv:lsem b (lastL x) e <;> simp[bit] <;> omega
def cmpC(p:Int)(x y:List Int)(b:Bd):Int×Bd:=
 let u:=if 6<=p then flip x else x
 let v:=if 6<=p then flip y else y
 let q:=if 6<=p then p-4 else p
 if q=0 then equal u v b else if q=1 then(-(equal u v b).1,(equal u v b).2)else if q=2 then below u v b
 else if q=3 then(-(below v u b).1,(below v u b).2)else if q=4 then below v u b else(-(below u v b).1,(below u v b).2)
def cmpV(p n a b:Int):Bool:=
 if p=0 then decide (a=b)else if p=1 then !decide (a=b)else if p=2 then decide (a<b)else if p=3 then decide (a<=b)else if p=4 then decide (b<a)else if p=5 then decide (b<=a)
 else if p=6 then decide (B.sg n a<B.sg n b)else if p=7 then decide (B.sg n a<=B.sg n b)else if p=8 then decide (B.sg n b<B.sg n a)else decide (B.sg n b<=B.sg n a)
theorem aYj{p:Int}{x y:List Int}{b:Bd}(h:(cmpC p x y b).2.full=false):b.full=false:=by
 unfold cmpC at h;simp only at h;generalize (if 6<=p then flip x else x)=u at h;generalize (if 6<=p then flip y else y)=v at h;generalize (if 6<=p then p-4 else p)=q at h;split at h
 ·exact aM9 h
 split at h
 ·exact aM9 h
 split at h
 ·exact aGt h
 split at h
 ·exact aGt h
 split at h
 ·exact aGt h
 ·exact aGt h
theorem Sp.neg{K:Nat}{b:Bd}{r:Int×Bd}{f:E->Bool}(h:Sp K b r f):Sp K b (-r.1,r.2) (fun e=>!f e):=by
 intro hf;obtain⟨h1,h2,h3,h4⟩:=h hf;exact⟨h1,h2,aAm h3,fun e=>by show lsem r.2 (-r.1) e=_;rw[aAn _ (aAc h3),h4]⟩
theorem bEq{K:Nat}{b:Bd}{p:Int}{x y:List Int}(hb:Ok K b)(hx:Wd b x)(hy:Wd b y)(hl:x.length=y.length)(h0:0<x.length)(hp0:0<=p)(hp:p<=9):
 Sp K b (cmpC p x y b) (fun e=>cmpV p (x.length:Int) (wv b e x) (wv b e y)):=by
 obtain⟨m,hm⟩:∃m,x.length=m+1:=⟨x.length-1,by omega⟩;have fx:=aU4 hx h0;have fy:=aU4 hy (by omega);have fl:(flip x).length=(flip y).length:=by rw[aD1,aD1];exact hl
 have vx:=fun e=>aU5 hx e hm
 have vy:=fun e=>aU5 (x:=y) hy e (m:=m) (by omega)
 rw[<-hl]at vy;have hc:p=0\/p=1\/p=2\/p=3\/p=4\/p=5\/p=6\/p=7\/p=8\/p=9:=by omega
 rcases hc with rfl | rfl | rfl | rfl | rfl | rfl | rfl | rfl | rfl | rfl
 ·exact(aRf hb hx hy hl).congr fun e=>by show decide _=decide _;rw[decide_eq_decide];omega
 ·exact(aRf hb hx hy hl).neg.congr fun e=>by show(!decide _)= !decide _;congr 1;rw[decide_eq_decide];omega
 ·exact(aD0 hb hx hy hl).congr fun e=>by show decide _=decide _;rw[decide_eq_decide];omega
 ·exact(aD0 hb hy hx hl.symm).neg.congr fun e=>by show(!decide _)=decide _;rw[<-decide_not,decide_eq_decide];omega
 ·exact(aD0 hb hy hx hl.symm).congr fun e=>by show decide _=decide _;rw[decide_eq_decide];omega
 ·exact(aD0 hb hx hy hl).neg.congr fun e=>by show(!decide _)=decide _;rw[<-decide_not,decide_eq_decide];omega
 ·exact(aD0 hb fx fy fl).congr fun e=>by have a1:=vx e;have a2:=vy e;show decide _=decide _;rw[decide_eq_decide];omega
 ·exact(aD0 hb fy fx fl.symm).neg.congr fun e=>by have a1:=vx e;have a2:=vy e;show(!decide _)=decide _;rw[<-decide_not,decide_eq_decide];omega
 ·exact(aD0 hb fy fx fl.symm).congr fun e=>by have a1:=vx e;have a2:=vy e;show decide _=decide _;rw[decide_eq_decide];omega
 ·exact(aD0 hb fx fy fl).neg.congr fun e=>by have a1:=vx e;have a2:=vy e;show(!decide _)=decide _;rw[<-decide_not,decide_eq_decide];omega
def bw1(op:Int)(x y:Int)(b:Bd):Int×Bd:=if op=8 then and x y b else if op=9 then or x y b else xor x y b
def bwTo(op:Int)(x y:List Int)(b:Bd):Nat->List Int×Bd
 | 0=>([],b)
 | i+1=>((bwTo op x y b i).1 ++ [(bw1 op (x.getD i 0) (y.getD i 0) (bwTo op x y b i).2).1],(bw1 op (x.getD i 0) (y.getD i 0) (bwTo op x y b i).2).2)
def mags(x y:List Int)(b:Bd):DS:=aA8 (aA6 x b).1 (aA6 y (aA6 x b).2).1 (aA6 y (aA6 x b).2).2
def negIf(c:Int)(w:List Int)(b:Bd):List Int×Bd:=picks c (minus w b).1 w (minus w b).2
def sdiv(x y:List Int)(b:Bd):List Int×Bd:=negIf (xor (lastL x) (lastL y) (mags x y b).b).1 (mags x y b).q (xor (lastL x) (lastL y) (mags x y b).b).2
def srem(x y:List Int)(b:Bd):List Int×Bd:=negIf (lastL x) (mags x y b).r (mags x y b).b
def arith(op:Int)(x y:List Int)(b:Bd):List Int×Bd:=
 if op=1 then((sum x y (-1) b).1.1,(sum x y (-1) b).2)
 else if op=2 then((sum x (notw y) 1 b).1.1,(sum x (notw y) 1 b).2)
 else if op=3 then times x y b
 else if op=4 then((aA8 x y b).q,(aA8 x y b).b)
 else if op=5 then((aA8 x y b).r,(aA8 x y b).b)
 else if op=6 then sdiv x y b
 else if op=7 then srem x y b
 else if op=11 then shift x y (-1) b
 else if op=12 then aB4 x y (-1) b
 else if op=13 then aB4 x y (lastL x) b
 else bwTo op x y b x.length
theorem aRj{op x y:Int}{b:Bd}(h:(bw1 op x y b).2.full=false):b.full=false:=by
 unfold bw1 at h;split at h
 ·exact aCk h
 split at h
 ·exact aG5 h
 ·exact aDy h
theorem aYk{op:Int}{x y:List Int}{b:Bd}{i:Nat}(h:(bwTo op x y b i).2.full=false):b.full=false:=by
 induction i with
 | zero=>exact h
 | succ i ih=>exact ih (aRj h)
theorem aFq{c:Int}{w:List Int}{b:Bd}(h:(negIf c w b).2.full=false):b.full=false:=aM7 (aCy h)
theorem aPh{x y:List Int}{b:Bd}(h:(mags x y b).b.full=false):b.full=false:=aF3 (aF3 (aF9 h))
theorem aRk{K:Nat}{b:Bd}{c:Int}{w:List Int}(hb:Ok K b)(hc:isLit b.n c=true)(hw:Wd b w)(hf:(negIf c w b).2.full=false):
 WSp K b (negIf c w b) w.length/\∀e,wv (negIf c w b).2 e (negIf c w b).1=if lsem b c e=true then(2 ^ w.length-wv b e w) % 2 ^ w.length else wv b e w:=by
 obtain⟨⟨m1,m2,m3,m4⟩,m5⟩:=aRe hb hw (aCy hf);obtain⟨⟨p1,p2,p3,p4⟩,_,p5⟩:=aHi m1 (aAr hc m2.n) m3 (hw.up m2) m4 hf;refine⟨⟨p1,m2.trans p2,p3,p4.trans m4⟩,fun e=>?_⟩;refine(p5 e).trans ?_;rw[m2.sem _ hc,m5 e,wv_le m2 hw]
theorem aU6{K:Nat}{b:Bd}{x y:List Int}(hb:Ok K b)(hx:Wd b x)(hy:Wd b y)(hl:x.length=y.length)(h0:0<x.length)(hf:(mags x y b).b.full=false):
 Ok K (mags x y b).b/\Le b (mags x y b).b/\Wd (mags x y b).b (mags x y b).q/\Wd (mags x y b).b (mags x y b).r/\(mags x y b).q.length=x.length/\(mags x y b).r.length=x.length/\
 ∀e,wv (mags x y b).b e (mags x y b).q=(if(if lsem b (lastL y) e=true then(2 ^ x.length-wv b e y) % 2 ^ x.length else wv b e y)=0 then 2 ^ x.length-1 else(if lsem b (lastL x) e=true then(2 ^ x.length-wv b e x) % 2 ^ x.length else wv b e x) / (if lsem b (lastL y) e=true then(2 ^ x.length-wv b e y) % 2 ^ x.length else wv b e y))/\
  wv (mags x y b).b e (mags x y b).r=(if lsem b (lastL x) e=true then(2 ^ x.length-wv b e x) % 2 ^ x.length else wv b e x) % (if lsem b (lastL y) e=true then(2 ^ x.length-wv b e y) % 2 ^ x.length else wv b e y):=by
 have f2:=aF9 hf;have f1:=aF3 f2;have hdef:mags x y b=aA8 (aA6 x b).1 (aA6 y (aA6 x b).2).1 (aA6 y (aA6 x b).2).2:=rfl;rw[hdef]at hf⊢;obtain⟨⟨a1,a2,a3,a4⟩,a5⟩:=aJ7 hb hx h0 f1;generalize aA6 x b=mx at*;obtain⟨⟨b1,b2,b3,b4⟩,b5⟩:=aJ7 a1 (hy.up a2) (by omega) f2;generalize aA6 y mx.2=my at*;obtain⟨d1,d2,d3,d4,d5,d6,d7⟩:=aJ9 b1 (a3.up b2) b3 (by rw[a4,b4];exact hl) hf;have lly:=aDz hy (by omega);refine⟨d1,a2.trans (b2.trans d2),d3,d4,d5.trans a4,d6.trans a4,fun e=>?_⟩;obtain⟨q1,q2⟩:=d7 e;rw[wv_le b2 a3,a5 e,b5 e,a2.sem _ lly,wv_le a2 hy,<-hl,a4]at q1;rw[wv_le b2 a3,a5 e,b5 e,a2.sem _ lly,wv_le a2 hy,<-hl]at q2;exact⟨q1,q2⟩
theorem aWg{op:Int}{x y:List Int}{b:Bd}(h:(arith op x y b).2.full=false):b.full=false:=by
 unfold arith at h;split at h
 ·exact aE5 h
 split at h
 ·exact aE5 h
 split at h
 ·exact aWd h
 split at h
 ·exact aF9 h
 split at h
 ·exact aF9 h
 split at h
 ·exact aPh (aDy (aFq h))
 split at h
 ·exact aPh (aFq h)
 split at h
 ·exact aIl h
 split at h
 ·exact aIl h
 split at h
 ·exact aIl h
 ·exact aYk h
theorem bA9{op:Int}{x y:List Int}{b:Bd}{i:Nat}:(bwTo op x y b i).1.length=i:=by
 induction i with
 | zero=>rfl
 | succ i ih=>simp[bwTo,ih]
def bwF(op:Int)(a b:Bool):Bool:=if op=8 then a && b else if op=9 then a || b else Bool.xor a b
theorem bEr{K:Nat}{b:Bd}{op x y:Int}(hb:Ok K b)(hx:isLit b.n x=true)(hy:isLit b.n y=true):Sp K b (bw1 op x y b) (fun e=>bwF op (lsem b x e) (lsem b y e)):=by
 unfold bw1 bwF
 by_cases h8:op=8
 ·simp only[if_pos h8];exact aGg hb hx hy
 ·by_cases h9:op=9
  ·simp only[if_neg h8,if_pos h9];exact or_sp hb hx hy
  ·simp only[if_neg h8,if_neg h9];exact aJ5 hb hx hy
theorem aOk{K:Nat}{b:Bd}{op:Int}{x y:List Int}(hb:Ok K b)(hx:Wd b x)(hy:Wd b y)(hl:x.length=y.length){i:Nat}(hi:i<=x.length)(hf:(bwTo op x y b i).2.full=false):
 WSp K b (bwTo op x y b i) i/\∀e j,j<i->bt (bwTo op x y b i).2 e (bwTo op x y b i).1 j=bwF op (bt b e x j) (bt b e y j):=by
 induction i with
 | zero=>exact⟨⟨hb,Le.refl _,Wd.nil_ _,rfl⟩,fun e j hj=>by omega⟩
 | succ i ih=>
  obtain⟨⟨h1,h2,h3,h4⟩,h5⟩:=ih (by omega) (aRj hf);have lx:=hx.at_ (i:=i) (by omega);have ly:=hy.at_ (i:=i) (by omega);obtain⟨g1,g2,g3,g4⟩:=bEr (op:=op) h1 (aAr lx h2.n) (aAr ly h2.n) hf;refine⟨⟨g1,h2.trans g2,(h3.up g2).snoc g3,bA9⟩,fun e j hj=>?_⟩;have g5:=g4 e;simp only at g5;rw[h2.sem _ lx,h2.sem _ ly]at g5
  show bt _ e ((bwTo op x y b i).1 ++ [_]) j=_
  rw[aM6,h4]
  by_cases e1:j<i
  ·rw[if_pos e1,<-h5 e j e1];exact bt_le g2 h3 (by rw[h4];exact e1) e
  ·obtain rfl:j=i:=by omega
   rw[if_neg e1];have e2:bt (bw1 op (x.getD j 0) (y.getD j 0) (bwTo op x y b j).2).2 e [(bw1 op (x.getD j 0) (y.getD j 0) (bwTo op x y b j).2).1] (j-j)=lsem (bw1 op (x.getD j 0) (y.getD j 0) (bwTo op x y b j).2).2 (bw1 op (x.getD j 0) (y.getD j 0) (bwTo op x y b j).2).1 e:=by
    rw[zBG];rfl
   exact e2.trans g5
theorem aIc(b:Bd)(e:E){x:List Int}{m:Nat}(h:x.length=m+1):((if lsem b (lastL x) e=true then(2 ^ x.length-wv b e x) % 2 ^ x.length else wv b e x:Nat):Int)=(if lsem b (lastL x) e=true then -B.sg (x.length:Int) (wv b e x:Int)else B.sg (x.length:Int) (wv b e x:Int))/\
 (lsem b (lastL x) e=true->B.sg (x.length:Int) (wv b e x:Int) < 0)/\(lsem b (lastL x) e=false->0<=B.sg (x.length:Int) (wv b e x:Int)):=by
 obtain⟨h1,h2⟩:=aK8 b e h;have hs:=sg_of b e h;have hlt:=wv_lt b e x;cases hv:lsem b (lastL x) e
 ·rw[hv]at hs;rw[if_neg (by decide)]at hs⊢;rw[if_neg (by decide),hs];exact⟨rfl,fun h=>(by cases h),fun _=>(by omega)⟩
 ·rw[hv]at hs h1;have e1:bit true=1:=rfl;rw[e1,Nat.mul_one]at h1;rw[if_pos rfl]at hs⊢;rw[if_pos rfl,hs];have hpos:=Nat.two_pow_pos m;rw[h]at hlt⊢;rw[zAU (by omega)];exact⟨by omega,fun _=>(by omega),fun h=>(by cases h)⟩
theorem aEs{P q:Nat}(hq:q<P):(((P-q) % P:Nat):Int)=(-(q:Int)) % (P:Int):=by
 rcases Nat.eq_zero_or_pos q with rfl | h
 ·simp
 ·rw[zAU (by omega)];have h1:(-(q:Int)) % (P:Int)=((P:Int)-q) % P:=by
   rw[show((P:Int)-q)= -(q:Int)+P by omega,Int.add_emod_right]
  rw[h1,Int.emod_eq_of_lt (by omega) (by omega)];omega
theorem bBa{P X Y:Nat}{n sa sb:Int}(hn:B.pw n=(P:Int))(hX:(X:Int) < P)(hsa:B.sg n X=sa)(hsb:B.sg n Y=sb)(h1:1<=n)(hX0:X<P)(hY0:Y<P)
 {MX MY:Nat} {na nb:Bool} (ha:(MX:Int)=if na=true then -sa else sa) (hb:(MY:Int)=if nb=true then -sb else sb) (ha1:na=true->sa<0) (ha0:na=false->0<=sa) (hb1:nb=true->sb<0) (hb0:nb=false->0<=sb) (hMX:MX<P) (hYz:Y=0↔sb=0):
 (((if Bool.xor na nb=true then(P- (if MY=0 then P-1 else MX / MY)) % P else(if MY=0 then P-1 else MX / MY):Nat)):Int)=B.full 6 n X Y:=by
 have hP:2<=P:=by have:=B.aM0 h1;omega
 have hMYz:MY=0↔Y=0:=by
  rw[hYz];cases nb <;> simp at hb <;> omega
 have hq:(if MY=0 then P-1 else MX / MY) < P:=by
  split
  ·omega
  ·exact Nat.lt_of_le_of_lt (Nat.div_le_self _ _) hMX
 by_cases hY:Y=0
 ·have hMY:=hMYz.2 hY;have hsb0:=hYz.1 hY;have hnb:nb=false:=by
   cases nb
   ·rfl
   ·have:=hb1 rfl;omega
  have hfull:B.full 6 n X Y=if sa<0 then 1 else(P:Int)-1:=by
   unfold B.full;rw[B.do_6,if_pos (.inl (by omega)),Option.getD_none];unfold B.els;rw[if_neg (by decide),if_neg (by decide),if_pos rfl,if_neg (by omega),hsa,hn]
  rw[hfull,if_pos hMY,hnb];cases na
  ·have:=ha0 rfl;rw[if_neg (by decide),if_neg (by omega)];omega
  ·have:=ha1 rfl;rw[if_pos (by decide),if_pos this,show P- (P-1)=1 by omega,zAU (by omega)];rfl
 ·have hMY:MY≠0:=fun h=>hY (hMYz.1 h)
  rw[if_neg hMY]at hq⊢;have htd:((MX / MY:Nat):Int)=(MX:Int).tdiv (MY:Int):=Int.ofNat_tdiv _ _;have hval:(((if Bool.xor na nb=true then(P-MX / MY) % P else MX / MY:Nat)):Int)=(sa.tdiv sb) % (P:Int):=by
   cases na <;> cases nb <;> simp only[if_true,if_false,Bool.false_eq_true]at ha hb
   ·rw[if_neg (by decide)];have:sa.tdiv sb=((MX / MY:Nat):Int):=by rw[htd,ha,hb]
    rw[this];exact(Int.emod_eq_of_lt (Int.natCast_nonneg _) (Int.ofNat_lt.2 hq)).symm
   ·rw[if_pos (by decide),aEs hq]
    congr 1
    rw[htd,ha,hb,Int.tdiv_neg,Int.neg_neg]
   ·rw[if_pos (by decide),aEs hq]
    congr 1
    rw[htd,ha,hb,Int.neg_tdiv,Int.neg_neg]
   ·rw[if_neg (by decide)];have:sa.tdiv sb=((MX / MY:Nat):Int):=by
     rw[htd,ha,hb,Int.tdiv_neg,Int.neg_tdiv,Int.neg_neg]
    rw[this];exact(Int.emod_eq_of_lt (Int.natCast_nonneg _) (Int.ofNat_lt.2 hq)).symm
  rw[hval];unfold B.full;rw[B.do_6]
  by_cases ho:sa= -B.pw (n-1)/\sb= -1
  ·rw[if_pos (.inr ⟨by rw[hsa];exact ho.1,by rw[hsb];exact ho.2⟩),Option.getD_none];unfold B.els;rw[if_neg (by decide),if_neg (by decide),if_pos rfl,if_pos (by omega)];have h2:=B.aF0 h1;rw[hn]at h2;have h3:sa.tdiv sb=B.pw (n-1):=by
    rw[ho.1,ho.2,Int.tdiv_neg,Int.neg_tdiv,Int.neg_neg,Int.tdiv_one]
   have h4:=B.aBr (n-1);rw[h3,Int.emod_eq_of_lt (by omega) (by omega)];have h5:=hsa;unfold B.sg at h5;rw[hn]at h5;split at h5 <;> omega
  ·rw[if_neg (fun h=>h.elim (fun h=>hY (by omega)) fun h=>ho ⟨by rw[<-hsa];exact h.1,by rw[<-hsb];exact h.2⟩),Option.getD_some,hsa,hsb,hn]
theorem bBb{P X Y:Nat}{n sa sb:Int}(hn:B.pw n=(P:Int))(hsa:B.sg n X=sa)(hsb:B.sg n Y=sb)(h1:1<=n)(hX0:X<P)(hY0:Y<P)
 {MX MY:Nat} {na nb:Bool} (ha:(MX:Int)=if na=true then -sa else sa) (hb:(MY:Int)=if nb=true then -sb else sb) (ha1:na=true->sa<0) (ha0:na=false->0<=sa) (hb1:nb=true->sb<0) (hb0:nb=false->0<=sb) (hMX:MX<P) (hYz:Y=0↔sb=0)
 (hsx:sa % (P:Int)=X):
 (((if na=true then(P-MX % MY) % P else MX % MY:Nat)):Int)=B.full 7 n X Y:=by
 have hP:2<=P:=by have:=B.aM0 h1;omega
 have hMYz:MY=0↔Y=0:=by
  rw[hYz];cases nb <;> simp at hb <;> omega
 have hq:MX % MY<P:=Nat.lt_of_le_of_lt (Nat.mod_le _ _) hMX;have hval:(((if na=true then(P-MX % MY) % P else MX % MY:Nat)):Int)=(if Y=0 then sa else sa.tmod sb) % (P:Int):=by
  by_cases hY:Y=0
  ·have hMY:=hMYz.2 hY;rw[if_pos hY,hMY,Nat.mod_zero]at*;cases na
   ·simp only[if_false,Bool.false_eq_true]at ha⊢;rw[<-ha,Int.emod_eq_of_lt (by omega) (by omega)]
   ·simp only[if_true]at ha⊢;rw[aEs hMX,ha,Int.neg_neg]
  ·rw[if_neg hY];have htd:((MX % MY:Nat):Int)=(MX:Int).tmod (MY:Int):=Int.ofNat_tmod _ _;cases na <;> cases nb <;> simp only[if_true,if_false,Bool.false_eq_true]at ha hb⊢
   ·rw[<-ha,<-hb,<-htd,Int.emod_eq_of_lt (by omega) (by omega)]
   ·have:sa.tmod sb=((MX % MY:Nat):Int):=by rw[htd,ha,hb,Int.tmod_neg]
    rw[this,Int.emod_eq_of_lt (by omega) (by omega)]
   ·rw[aEs hq]
    congr 1
    rw[htd,ha,hb,Int.neg_tmod,Int.neg_neg]
   ·rw[aEs hq]
    congr 1
    rw[htd,ha,hb,Int.neg_tmod,Int.tmod_neg,Int.neg_neg]
 rw[hval];unfold B.full;rw[B.do_7]
 by_cases hY:Y=0
 ·rw[if_pos hY,if_pos (.inl (by omega)),Option.getD_none];unfold B.els;rw[if_neg (by decide),if_neg (by decide),if_neg (by decide),if_pos rfl,if_neg (by omega),hsx]
 ·rw[if_neg hY]
  by_cases ho:sa= -B.pw (n-1)/\sb= -1
  ·rw[if_pos (.inr ⟨by rw[hsa];exact ho.1,by rw[hsb];exact ho.2⟩),Option.getD_none];unfold B.els;rw[if_neg (by decide),if_neg (by decide),if_neg (by decide),if_pos rfl,if_pos (by omega),ho.2,Int.tmod_neg,Int.tmod_one];rfl
  ·rw[if_neg (fun h=>h.elim (fun h=>hY (by omega)) fun h=>ho ⟨by rw[<-hsa];exact h.1,by rw[<-hsb];exact h.2⟩),Option.getD_some,hsa,hsb,hn]
theorem aYl(b:Bd)(e:E)(x:List Int):B.sg (x.length:Int) (wv b e x:Int) % ((2 ^ x.length:Nat):Int)=(wv b e x:Int):=by
 have h:=B.aQw (n:=(x.length:Int)) (a:=(wv b e x:Int));rw[pw_of]at h;rw[h];have:=wv_lt b e x;exact Int.emod_eq_of_lt (by omega) (by omega)
section
variable (x y : List Int) (b : Bd)
theorem aU7:arith 1 x y b=((sum x y (-1) b).1.1,(sum x y (-1) b).2):=by simp[arith]
theorem aU8:arith 2 x y b=((sum x (notw y) 1 b).1.1,(sum x (notw y) 1 b).2):=by simp[arith]
theorem aU9:arith 3 x y b=times x y b:=by simp[arith]
theorem aVa:arith 4 x y b=((aA8 x y b).q,(aA8 x y b).b):=by simp[arith]
theorem aVb:arith 5 x y b=((aA8 x y b).r,(aA8 x y b).b):=by simp[arith]
theorem aVc:arith 6 x y b=sdiv x y b:=by simp[arith]
theorem aVd:arith 7 x y b=srem x y b:=by simp[arith]
theorem aVe:arith 8 x y b=bwTo 8 x y b x.length:=by simp[arith]
theorem aVf:arith 9 x y b=bwTo 9 x y b x.length:=by simp[arith]
theorem aRl:arith 10 x y b=bwTo 10 x y b x.length:=by simp[arith]
theorem aRm:arith 11 x y b=shift x y (-1) b:=by simp[arith]
theorem aRn:arith 12 x y b=aB4 x y (-1) b:=by simp[arith]
theorem aRo:arith 13 x y b=aB4 x y (lastL x) b:=by simp[arith]
end
theorem bBc{K:Nat}{b:Bd}{op:Int}{x y:List Int}(hb:Ok K b)(hx:Wd b x)(hy:Wd b y)(hl:x.length=y.length)(h0:0<x.length)(hn:x.length<=32)(ho:1<=op)(ho2:op<=13)(hf:(arith op x y b).2.full=false):
 WSp K b (arith op x y b) x.length/\∀e,(wv (arith op x y b).2 e (arith op x y b).1:Int)=B.full op (x.length:Int) (wv b e x) (wv b e y):=by
 obtain⟨m,hm⟩:∃m,x.length=m+1:=⟨x.length-1,by omega⟩;have hpw:=pw_of x.length;have hpos:=Nat.two_pow_pos x.length;have lx:=fun e=>wv_lt b e x
 have ly:=fun e=>wv_lt b e y
 rw[<-hl]at ly;have llx:=aDz hx h0;have lly:=aDz hy (by omega);rcases B.aHe ho ho2 with rfl | rfl | rfl | rfl | rfl | rfl | rfl | rfl | rfl | rfl | rfl | rfl | rfl
 ·
   rw[aU7]at hf⊢;have hf1:(sum x y (-1) b).2.full=false:=hf;obtain⟨⟨s1,s2,s3,s4,s5⟩,s6⟩:=aIb hb (aAm hb.lit1) hx hy hl hf1;refine⟨⟨s1,s2,s3,s4⟩,fun e=>?_⟩
   show(wv (sum x y (-1) b).2 e (sum x y (-1) b).1.1:Int)=_
   have k1:=s6 e;have k2:=wv_lt (sum x y (-1) b).2 e (sum x y (-1) b).1.1;rw[s4]at k2;rw[hb.no,show bit false=0 from rfl,zBI]at k1;unfold B.full;rw[B.do_1,Option.getD_some,hpw];have:(wv b e x:Int)+(wv b e y:Int)=((wv (sum x y (-1) b).2 e (sum x y (-1) b).1.1:Nat):Int)+((2 ^ x.length:Nat):Int)* (bit (lsem (sum x y (-1) b).2 (sum x y (-1) b).1.2 e):Int):=by
    have:=congrArg (fun k:Nat=>(k:Int)) k1;simp only[Int.natCast_add,Int.natCast_mul]at this;omega
   rw[this,Int.add_mul_emod_self_left,Int.emod_eq_of_lt (by omega) (by omega)]
 ·
   rw[aU8]at hf⊢;have hf1:(sum x (notw y) 1 b).2.full=false:=hf;obtain⟨⟨s1,s2,s3,s4,s5⟩,s6⟩:=aIb hb hb.lit1 hx (aK7 hy) (by rw[aBy];exact hl) hf1;refine⟨⟨s1,s2,s3,s4⟩,fun e=>?_⟩
   show(wv (sum x (notw y) 1 b).2 e (sum x (notw y) 1 b).1.1:Int)=_
   have k1:=s6 e;have k2:=wv_lt (sum x (notw y) 1 b).2 e (sum x (notw y) 1 b).1.1;have k3:=aG7 hy e;rw[<-hl]at k3;rw[s4]at k2;rw[hb.one,show bit true=1 from rfl]at k1;unfold B.full;rw[B.do_2,Option.getD_some,hpw];have:(wv b e x:Int)- (wv b e y:Int)=((wv (sum x (notw y) 1 b).2 e (sum x (notw y) 1 b).1.1:Nat):Int)+((2 ^ x.length:Nat):Int)* ((bit (lsem (sum x (notw y) 1 b).2 (sum x (notw y) 1 b).1.2 e):Int)-1):=by
    have:=congrArg (fun k:Nat=>(k:Int)) k1;simp only[Int.natCast_add,Int.natCast_mul]at this;rw[Int.mul_sub];omega
   rw[this,Int.add_mul_emod_self_left,Int.emod_eq_of_lt (by omega) (by omega)]
 ·
   rw[aU9]at hf⊢;obtain⟨h1,h2⟩:=bA7 hb hx hy hl hf;refine⟨h1,fun e=>?_⟩
   show(wv (times x y b).2 e (times x y b).1:Int)=_
   rw[h2 e];unfold B.full;rw[B.do_3,Option.getD_some,hpw];simp
 ·
   rw[aVa]at hf⊢;obtain⟨h1,h2,h3,h4,h5,h6,h7⟩:=aJ9 hb hx hy hl hf;refine⟨⟨h1,h2,h3,h5⟩,fun e=>?_⟩
   show(wv (aA8 x y b).b e (aA8 x y b).q:Int)=_
   rw[(h7 e).1];unfold B.full;rw[B.do_4]
   by_cases hz:wv b e y=0
   ·rw[if_pos hz,if_pos (by omega),Option.getD_none];unfold B.els;rw[if_pos rfl,hpw];omega
   ·rw[if_neg hz,if_neg (by omega),Option.getD_some];simp
 ·
   rw[aVb]at hf⊢;obtain⟨h1,h2,h3,h4,h5,h6,h7⟩:=aJ9 hb hx hy hl hf;refine⟨⟨h1,h2,h4,h6⟩,fun e=>?_⟩
   show(wv (aA8 x y b).b e (aA8 x y b).r:Int)=_
   rw[(h7 e).2];unfold B.full;rw[B.do_5]
   by_cases hz:wv b e y=0
   ·rw[if_pos (by omega),Option.getD_none,hz,Nat.mod_zero];unfold B.els;rw[if_neg (by decide),if_pos rfl]
   ·rw[if_neg (by omega),Option.getD_some];simp
 ·
   rw[aVc]at hf⊢;have hf1:=hf;clear hf;have f2:(mags x y b).b.full=false:=aDy (aFq hf1);obtain⟨d1,d2,d3,d4,d5,d6,d7⟩:=aU6 hb hx hy hl h0 f2;have hdef:sdiv x y b=negIf (xor (lastL x) (lastL y) (mags x y b).b).1 (mags x y b).q (xor (lastL x) (lastL y) (mags x y b).b).2:=rfl;rw[hdef]at hf1⊢;generalize mags x y b=d at*;obtain⟨c1,c2,c3,c4⟩:=aJ5 d1 (aAr llx d2.n) (aAr lly d2.n) (aFq hf1);have q2:=fun e=>c4 e
   simp only at q2;generalize xor (lastL x) (lastL y) d.b=c at*;obtain⟨⟨p1,p2,p3,p4⟩,p5⟩:=aRk c1 c3 (d3.up c2) hf1;refine⟨⟨p1,d2.trans (c2.trans p2),p3,p4.trans d5⟩,fun e=>?_⟩;have q1:=p5 e;rw[q2 e,d2.sem _ llx,d2.sem _ lly,wv_le c2 d3,(d7 e).1,d5]at q1;obtain⟨n1,n2,n3⟩:=aIc b e hm;obtain⟨n4,n5,n6⟩:=aIc b e (x:=y) (m:=m) (by omega);rw[<-hl]at n4 n5 n6;rw[q1];refine bBa (P:=2 ^ x.length) hpw (by have:=lx e;omega) rfl rfl (by omega) (lx e) (ly e) n1 n4 n2 n3 n5 n6 ?_ ?_
   ·have:=lx e;split
    ·exact Nat.mod_lt _ hpos
    ·exact this
   ·have:=B.aH8 (n:=(x.length:Int)) (a:=(wv b e y:Int)) (by omega) (by omega) (by rw[hpw];have:=ly e;omega);rw[this];omega
 ·
   rw[aVd]at hf⊢;have hf1:=hf;clear hf;have f2:(mags x y b).b.full=false:=aFq hf1;obtain⟨d1,d2,d3,d4,d5,d6,d7⟩:=aU6 hb hx hy hl h0 f2;have hdef:srem x y b=negIf (lastL x) (mags x y b).r (mags x y b).b:=rfl;rw[hdef]at hf1⊢;generalize mags x y b=d at*;obtain⟨⟨p1,p2,p3,p4⟩,p5⟩:=aRk d1 (aAr llx d2.n) d4 hf1;refine⟨⟨p1,d2.trans p2,p3,p4.trans d6⟩,fun e=>?_⟩;have q1:=p5 e;rw[d2.sem _ llx,(d7 e).2,d6]at q1;obtain⟨n1,n2,n3⟩:=aIc b e hm;obtain⟨n4,n5,n6⟩:=aIc b e (x:=y) (m:=m) (by omega);rw[<-hl]at n4 n5 n6;rw[q1];refine bBb (P:=2 ^ x.length) hpw rfl rfl (by omega) (lx e) (ly e) n1 n4 n2 n3 n5 n6 ?_ ?_ (aYl b e x)
   ·have:=lx e;split
    ·exact Nat.mod_lt _ hpos
    ·exact this
   ·have:=B.aH8 (n:=(x.length:Int)) (a:=(wv b e y:Int)) (by omega) (by omega) (by rw[hpw];have:=ly e;omega);rw[this];omega
 ·rw[aVe]at hf⊢;obtain⟨h1,h2⟩:=aOk (op:=8) hb hx hy hl (zBJ _) hf;refine⟨h1,fun e=>?_⟩
  show(wv (bwTo 8 x y b x.length).2 e (bwTo 8 x y b x.length).1:Int)=_
  unfold B.full;rw[B.do_8,Option.getD_some,zBA,zBA]
  congr 1
  apply Nat.eq_of_testBit_eq;intro j;rw[Nat.testBit_and,aAx,aAx,aAx,h1.len,<-hl]
  by_cases hj:j<x.length
  ·rw[h2 e j hj];simp[hj,bwF]
  ·simp[hj]
 ·rw[aVf]at hf⊢;obtain⟨h1,h2⟩:=aOk (op:=9) hb hx hy hl (zBJ _) hf;refine⟨h1,fun e=>?_⟩
  show(wv (bwTo 9 x y b x.length).2 e (bwTo 9 x y b x.length).1:Int)=_
  unfold B.full;rw[B.do_9,Option.getD_some,zBA,zBA]
  congr 1
  apply Nat.eq_of_testBit_eq;intro j;rw[Nat.testBit_or,aAx,aAx,aAx,h1.len,<-hl]
  by_cases hj:j<x.length
  ·rw[h2 e j hj];simp[hj,bwF]
  ·simp[hj]
 ·rw[aRl]at hf⊢;obtain⟨h1,h2⟩:=aOk (op:=10) hb hx hy hl (zBJ _) hf;refine⟨h1,fun e=>?_⟩
  show(wv (bwTo 10 x y b x.length).2 e (bwTo 10 x y b x.length).1:Int)=_
  unfold B.full;rw[B.do_10,Option.getD_some,zBA,zBA]
  congr 1
  apply Nat.eq_of_testBit_eq;intro j;rw[Nat.testBit_xor,aAx,aAx,aAx,h1.len,<-hl]
  by_cases hj:j<x.length
  ·rw[h2 e j hj];simp[hj,bwF]
  ·simp[hj]
 ·
   rw[aRm]at hf⊢;obtain⟨h1,h2⟩:=aRi hb hx hy (aAm hb.lit1) (by omega) hf;refine⟨h1,fun e=>?_⟩
   show(wv (shift x y (-1) b).2 e (shift x y (-1) b).1:Int)=_
   have hv:wv (shift x y (-1) b).2 e (shift x y (-1) b).1=wv b e x*2 ^ wv b e y % 2 ^ x.length:=by
    apply Nat.eq_of_testBit_eq;intro j;rw[aAx,h1.len,Nat.testBit_mod_two_pow,Nat.testBit_mul_two_pow,aAx]
    by_cases hj:j<x.length
    ·rw[h2 e j hj,hb.no]
     by_cases hc:j<wv b e y
     ·rw[if_pos hc];have:¬wv b e y<=j:=by omega
      simp[this]
     ·rw[if_neg hc];have h3:wv b e y<=j:=by omega
      have h4:j-wv b e y<x.length:=by omega
      simp[hj,h3,h4]
    ·simp[hj]
   rw[hv];unfold B.full;rw[B.do_11]
   by_cases hc:(x.length:Int)<=(wv b e y:Int)
   ·rw[if_pos hc,Option.getD_none];have h3:2 ^ x.length∣wv b e x*2 ^ wv b e y:=Nat.dvd_trans (Nat.pow_dvd_pow 2 (by omega)) (Nat.dvd_mul_left _ _);rw[Nat.mod_eq_zero_of_dvd h3];rfl
   ·rw[if_neg hc,Option.getD_some,hpw,pw_of];simp
 ·
   rw[aRn]at hf⊢;obtain⟨h1,h2⟩:=aPg hb hx hy (aAm hb.lit1) (by omega) hf;refine⟨h1,fun e=>?_⟩
   show(wv (aB4 x y (-1) b).2 e (aB4 x y (-1) b).1:Int)=_
   have hv:wv (aB4 x y (-1) b).2 e (aB4 x y (-1) b).1=wv b e x / 2 ^ wv b e y:=by
    apply Nat.eq_of_testBit_eq;intro j;rw[aAx,h1.len,Nat.testBit_div_two_pow,aAx]
    by_cases hj:j<x.length
    ·rw[h2 e j hj,hb.no]
     by_cases hc:j+wv b e y<x.length
     ·rw[if_pos hc];simp[hj,hc]
     ·rw[if_neg hc];simp[hc]
    ·have:¬j+wv b e y<x.length:=by omega
     simp[hj,this]
   rw[hv];unfold B.full;rw[B.do_12]
   by_cases hc:(x.length:Int)<=(wv b e y:Int)
   ·rw[if_pos hc,Option.getD_none];have h3:2 ^ x.length<=2 ^ wv b e y:=zAJ (by decide) (by omega);rw[Nat.div_eq_of_lt (zAL (lx e) h3)];rfl
   ·rw[if_neg hc,Option.getD_some,pw_of];simp
 ·
   rw[aRo]at hf⊢;obtain⟨h1,h2⟩:=aPg hb hx hy llx (by omega) hf;refine⟨h1,fun e=>?_⟩
   show(wv (aB4 x y (lastL x) b).2 e (aB4 x y (lastL x) b).1:Int)=_
   obtain⟨_,n2,n3⟩:=aIc b e hm;have hsg:=sg_of b e hm;cases hv:lsem b (lastL x) e
   ·have hval:wv (aB4 x y (lastL x) b).2 e (aB4 x y (lastL x) b).1=wv b e x / 2 ^ wv b e y:=by
     apply Nat.eq_of_testBit_eq;intro j;rw[aAx,h1.len,Nat.testBit_div_two_pow,aAx]
     by_cases hj:j<x.length
     ·rw[h2 e j hj,hv]
      by_cases hc:j+wv b e y<x.length
      ·rw[if_pos hc];simp[hj,hc]
      ·rw[if_neg hc];simp[hc]
     ·have:¬j+wv b e y<x.length:=by omega
      simp[hj,this]
    rw[hval];rw[hv,if_neg (by decide)]at hsg;have n3':=n3 hv;unfold B.full;rw[B.do_13]
    by_cases hc:(x.length:Int)<=(wv b e y:Int)
    ·rw[if_pos hc,Option.getD_none];have h3:2 ^ x.length<=2 ^ wv b e y:=zAJ (by decide) (by omega);rw[Nat.div_eq_of_lt (zAL (lx e) h3)];unfold B.els;simp only[show¬((13:Int)=4) by decide,show¬((13:Int)=5) by decide,show¬((13:Int)=6) by decide,show¬((13:Int)=7) by decide,if_false,if_true];rw[if_neg (by omega)];rfl
    ·rw[if_neg hc,Option.getD_some,hsg,pw_of,hpw];have h3:wv b e x / 2 ^ wv b e y<2 ^ x.length:=Nat.lt_of_le_of_lt (Nat.div_le_self _ _) (lx e);have h4:((wv b e x:Int) / ((2 ^ wv b e y:Nat):Int))=((wv b e x / 2 ^ wv b e y:Nat):Int):=by simp
     rw[h4,Int.emod_eq_of_lt (by omega) (by omega)]
   ·
     have hcomp:wv (aB4 x y (lastL x) b).2 e (notw (aB4 x y (lastL x) b).1)=wv b e (notw x) / 2 ^ wv b e y:=by
      apply Nat.eq_of_testBit_eq;intro j;rw[aAx,aBy,h1.len,Nat.testBit_div_two_pow,aAx,aBy];have hneg:∀(b':Bd) (w:List Int) (k:Nat),Wd b' w->k<w.length->bt b' e (notw w) k= !bt b' e w k:=by
       intro b' w k hw hk;unfold bt notw;have:(w.map fun l=> -l).getD k 0= -(w.getD k 0):=by
        simp only[List.getD,zAW,zAB hk];rfl
       rw[this,aAn b' (aAc (hw.at_ hk))]
      by_cases hj:j<x.length
      ·rw[hneg _ _ j h1.wd (by rw[h1.len];exact hj),h2 e j hj,hv]
       by_cases hc:j+wv b e y<x.length
       ·rw[if_pos hc,hneg b x _ hx hc];simp[hj,hc]
       ·rw[if_neg hc];simp[hc]
      ·have:¬j+wv b e y<x.length:=by omega
       simp[hj,this]
     have k1:=aG7 hx e;have k2:=aG7 h1.wd e;rw[h1.len,hcomp]at k2;rw[hv,if_pos rfl,<-hm]at hsg;have n2':=n2 hv;have hM:wv b e (notw x) / 2 ^ wv b e y<=wv b e (notw x):=Nat.div_le_self _ _;unfold B.full;rw[B.do_13]
     by_cases hc:(x.length:Int)<=(wv b e y:Int)
     ·rw[if_pos hc,Option.getD_none];have h3:2 ^ x.length<=2 ^ wv b e y:=zAJ (by decide) (by omega);rw[Nat.div_eq_of_lt (by omega)]at k2;unfold B.els;simp only[show¬((13:Int)=4) by decide,show¬((13:Int)=5) by decide,show¬((13:Int)=6) by decide,show¬((13:Int)=7) by decide,if_false,if_true];rw[if_pos (by omega),hpw];omega
     ·rw[if_neg hc,Option.getD_some,hsg,pw_of,hpw];have hP2:=Nat.two_pow_pos (wv b e y);generalize hQ:2 ^ wv b e y=Q at hP2 k2 hM⊢;generalize hP:2 ^ x.length=P at hpos k1 k2⊢;generalize wv b e (notw x)=M at k1 k2 hM⊢;have h5:((wv b e x:Int)- (P:Int)) / (Q:Int)= -((M / Q:Nat):Int)-1:=by
       have h6:(wv b e x:Int)- (P:Int)= -((M:Int)+1):=by omega
       rw[h6];have h7:=Nat.div_add_mod M Q;have h8:=Nat.mod_lt M hP2;generalize M % Q=r at h7 h8;generalize M / Q=q at h7⊢;have h9:(M:Int)=(Q:Int)* (q:Int)+(r:Int):=by
        have:=congrArg (fun k:Nat=>(k:Int)) h7;simp only[Int.natCast_add,Int.natCast_mul]at this;omega
       have h10: -((M:Int)+1)=((Q:Int)-1-r)+(Q:Int)* (-(q:Int)-1):=by
        rw[h9,Int.mul_sub,Int.mul_neg];omega
       rw[h10,Int.add_mul_ediv_left _ _ (by omega),Int.ediv_eq_zero_of_lt (by omega) (by omega)];omega
      rw[h5];clear h5 hcomp;generalize M / Q=q at k2 hM⊢;have h11:(-(q:Int)-1) % (P:Int)=(P:Int)- (q:Int)-1:=by
       rw[<-Int.add_emod_right,Int.emod_eq_of_lt (by omega) (by omega)];omega
      rw[h11];omega
end Go.Proofs.YtchdbhggbdcapaaGreat.C
end
