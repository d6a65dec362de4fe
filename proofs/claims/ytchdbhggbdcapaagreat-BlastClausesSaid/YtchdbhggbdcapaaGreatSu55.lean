/- Part. -/
import Derived.Test.YtchdbhggbdcapaaGreatSuLX
import Derived.Test.YtchdbhggbdcapaaGreatSu02
import Derived.Test.YtchdbhggbdcapaaGreatProg
import Derived.Test.YtchdbhggbdcapaaGreatSu54
set_option linter.unusedVariables false
set_option linter.unusedSimpArgs false
set_option maxRecDepth 100000
set_option maxHeartbeats 16000000
namespace Go.Proofs.YtchdbhggbdcapaaGreat
open _root_.Go.Proofs.Tryz
section
open Go.RowKit
theorem aMy(n l:Int)(w:World)(hn:0<=n)(hm:n<=4000):
 Calls prog 74 #[.int .i64 n, .int .i64 l] w fun e w'=>e= .returned (.bool (S.isLit n l))/\w=w':=by
 by_cases h3:l=0
 ·subst h3
  go_enter func74,ntmps74
  go_wp2;go_ret;exact⟨aA5 (by simp[S.isLit]),rfl⟩
 ·have hb:(l != 0)=true:=by simpa using h3
  by_cases h1: -n<=l
  ·by_cases h2:l<=n
   ·go_enter func74,ntmps74
    go_wp2;go_ret;exact⟨aA5 (by simp[S.isLit,h1,h2,h3]),rfl⟩
   ·go_enter func74,ntmps74
    go_wp2;go_ret;exact⟨aA5 (by simp[S.isLit];intros;omega),rfl⟩
  ·go_enter func74,ntmps74
   go_wp2;go_ret;exact⟨aA5 (by simp[S.isLit];intros;omega),rfl⟩
theorem aHz(n:Int)(A:Option Addr)(m c:Nat)(xs:List Int)(w:World)(hA:SlAt (IntR .i64) w A m xs)(hn:0<=n)(hm:n<=4000):
 Calls prog 49 #[.int .i64 n, .slice A m c] w fun e w'=>e= .returned (.bool (S.isClause n xs))/\w=w':=by
 have hl:=hA.le;have HA:=kH hA;clear hA
 go_enter func49,ntmps49
 go_wp2
 go_loop [5] (fun i=>∃k:Nat,k<=m/\i= .int .i64 k/\Hid ((xs.take k).all (S.isLit n)=true)) (fun i=>m- (intOf i).toNat)
 case atStart=>exact⟨0,zBL _,rfl,rfl⟩
 case round=>
  obtain⟨k,hk,rfl,HT⟩:=hrel
  by_cases hlt:k<m
  ·obtain⟨x,b,off,u,hx,rfl,_,h1,rfl⟩:=HA.out.at_ hlt;have Hx:=kH hx;clear hx;have con:=aMy n x w hn hm;cases hp:S.isLit n x
   ·rw[hp]at con;have Hcon:=kH con;clear con;have Hp:=kH hp;clear hp
    go_wp2_with fail
    refine Hcon.out.mono ?_;rintro e w' ⟨rfl,rfl⟩;go_wp2;go_ret;exact⟨aA5 (aEy Hx.out Hp.out).symm,rfl⟩
   ·rw[hp]at con;have Hcon:=kH con;clear con;have Hp:=kH hp;clear hp
    go_wp2_with fail
    refine Hcon.out.mono ?_;rintro e w' ⟨rfl,rfl⟩;go_wp2
    go_round
    case rel=>exact⟨k+1,by omega,by go_num,aEj Hx.out HT.out Hp.out⟩
    case measure=>simp[intOf];omega
  ·go_wp2;go_ret;exact⟨aA5 (aFm HA.out.len (by omega) HT.out).symm,rfl⟩
theorem aFy(n:Int)(A:Option Addr)(m c:Nat)(xs:List (List Int))(w:World)(hA:SlAt (SlR (IntR .i64)) w A m xs):
 Calls prog 48 #[.int .i64 n, .slice A m c] w fun e w'=>e= .returned (.int .i64 (S.aAe n xs))/\w=w':=by
 have hl:=hA.le;have HA:=kH hA;clear hA
 by_cases h0:n<0
 ·go_enter func48,ntmps48
  go_wp2;go_ret;exact⟨aBb (by simp[S.aAe,h0]),rfl⟩
 by_cases h1:4000<n
 ·go_enter func48,ntmps48
  go_wp2;go_ret;exact⟨aBb (by simp[S.aAe,h1]),rfl⟩
 by_cases h2:24000<m
 ·go_enter func48,ntmps48
  go_wp2;go_ret;exact⟨aBb (by have:=HA.out.len;simp[S.aAe,this,h2]),rfl⟩
 go_enter func48,ntmps48
 go_wp2
 go_loop [5] (fun i=>∃k:Nat,k<=m/\i= .int .i64 k/\Hid ((xs.take k).all (S.isClause n)=true)) (fun i=>m- (intOf i).toNat)
 case atStart=>exact⟨0,zBL _,rfl,rfl⟩
 case round=>
  obtain⟨k,hk,rfl,HT⟩:=hrel
  by_cases hlt:k<m
  ·obtain⟨x,b,off,u,hx,rfl,_,hcl,A1,c1,rfl,s1⟩:=HA.out.at_ hlt;have con:=aHz n A1 x.length c1 x w s1 (by omega) (by omega);clear s1;have Hx:=kH hx;clear hx;cases hp:S.isClause n x
   ·rw[hp]at con;have Hcon:=kH con;clear con;have Hp:=kH hp;clear hp
    go_wp2_with fail
    refine Hcon.out.mono ?_;rintro e w' ⟨rfl,rfl⟩;go_wp2;go_ret;refine⟨aBb ?_,rfl⟩;have:=HA.out.len;rw[S.aAe,if_neg (by omega),if_neg];rw[aEy Hx.out Hp.out];simp
   ·rw[hp]at con;have Hcon:=kH con;clear con;have Hp:=kH hp;clear hp
    go_wp2_with fail
    refine Hcon.out.mono ?_;rintro e w' ⟨rfl,rfl⟩;go_wp2
    go_round
    case rel=>exact⟨k+1,by omega,by go_num,aEj Hx.out HT.out Hp.out⟩
    case measure=>simp[intOf];omega
  ·go_wp2;go_ret;refine⟨aBb ?_,rfl⟩;have:=HA.out.len;rw[S.aAe,if_neg (by omega),if_pos (aFm HA.out.len (by omega) HT.out)]
theorem bAh{n:Int}{xs:List (List Int)}{k:Nat}{x:List Int}(h:xs.all (S.isClause n)=true)(hx:xs[k]? =some x):S.isClause n x=true:=
 zAD.1 h x (zAC hx)
structure StAt9(w:World)(B O n:Nat)(of:List Int)(conf:Bool):Prop where
 st:w.heap[B]? =some (.cells #[.slice (some ⟨O,0,none⟩) (n+1) (n+1), .bool conf] 87 (0,0))
 nums:w.heap[O]? =some (.cells (of.map (Value.int .i64)).toArray 3 (0,0))
 len:of.length=n+1
 ne:O≠B
section
variable {w w' : World} {B O n : Nat} {of : List Int} {conf : Bool}
theorem aJx(w:World)(g j:Nat)(cs:Array Value)(t:TypeId)(hg:w.heap[g]? =some (.cells cs t (0,0))):w.frozen? ⟨g,j,none⟩=false:=by
 simp[World.frozen?,hg]
theorem StAt9.c0(h:StAt9 w B O n of conf):w.cell? ⟨B,0,none⟩=some (.slice (some ⟨O,0,none⟩) (n+1) (n+1)):=by rw[cell_of_row w B 0 _ _ _ h.st];rfl
theorem StAt9.c1(h:StAt9 w B O n of conf):w.cell? ⟨B,1,none⟩=some (.bool conf):=by rw[cell_of_row w B 1 _ _ _ h.st];rfl
theorem StAt9.f1(h:StAt9 w B O n of conf):w.frozen? ⟨B,1,none⟩=false:=aJx w B 1 _ _ h.st
theorem StAt9.cn(h:StAt9 w B O n of conf){k:Nat}(hk:k<=n):w.cell? ⟨O,k,none⟩=some (.int .i64 (of.getD k 0)):=by
 rw[cell_of_row w O k _ _ _ h.nums];have:k<of.length:=by rw[h.len];omega
 simp[List.getD,this]
theorem StAt9.fn(h:StAt9 w B O n of conf)(k:Nat):w.frozen? ⟨O,k,none⟩=false:=aJx w O k _ _ h.nums
theorem StAt9.dr(h:StAt9 w B O n of conf)(hd:Dr w w'):StAt9 w' B O n of conf:=by obtain⟨m,rfl⟩:=hd;exact⟨h.st,h.nums,h.len,h.ne⟩
theorem StAt9.setConf(h:StAt9 w B O n of conf)(c:Bool):StAt9 (w.setCell ⟨B,1,none⟩ (.bool c)) B O n of c:=
 ⟨by rw[heap_setCell_same w B 1 _ _ _ h.st];rfl,by rw[Below.heap_setCell w _ _ O h.ne];exact h.nums,h.len,h.ne⟩
theorem StAt9.setNum(h:StAt9 w B O n of conf)(k:Nat)(x:Int):StAt9 (w.setCell ⟨O,k,none⟩ (.int .i64 x)) B O n (of.set k x) conf:=
 ⟨by rw[Below.heap_setCell w _ _ B h.ne.symm];exact h.st,by rw[heap_setCell_same w O k _ _ _ h.nums];simp[List.map_set],by simp[h.len],h.ne⟩
end
theorem bAi(l:Int)(w:World):Calls prog 123 #[.int .i64 l] w fun e w'=>e= .returned (.int .i64 (S.sgn l))/\w=w':=by
 by_cases h:0<l
 ·go_enter func123,ntmps123
  go_wp2;go_ret;exact⟨aBb (by simp[S.sgn,h]),rfl⟩
 ·go_enter func123,ntmps123
  go_wp2;go_ret;exact⟨aBb (by rw[S.sgn,if_neg (by omega)]),rfl⟩
theorem aP7(B O n:Nat)(of:List Int)(conf:Bool)(l:Int)(w:World)(h:StAt9 w B O n of conf)(hw:S.Wf n of)(hl:S.isLit n l=true)(hn:n<=4000):
 Calls prog 122 #[.pointer (some ⟨B,0,none⟩), .int .i64 l] w fun e w'=>e= .returned (.int .i64 (S.val of l))/\w=w':=by
 have hl': -(n:Int)<=l/\l<=n/\l≠0:=by simpa[S.isLit]using hl
 clear hl;have h0:=h.c0
 by_cases hp:0<l
 ·obtain⟨k,rfl⟩:∃k:Nat,l=k:=⟨l.toNat,by omega⟩;have hk:k<=n:=by omega
  have hc:=h.cn hk;have hv:S.val of (k:Int)=of.getD k 0:=by simp only[S.val,if_pos hp,zBA]
  obtain⟨x,hx⟩:∃x,x=of.getD k 0:=⟨_,rfl⟩;rw[<-hx]at hc hv;have Hv:=kH hv;clear hv h hw hx
  go_enter func122,ntmps122
  go_wp2;go_ret;exact⟨aBb Hv.out.symm,rfl⟩
 ·obtain⟨k,rfl⟩:∃k:Nat,l= -(k:Int):=⟨(-l).toNat,by omega⟩;have hk:k<=n:=by omega
  have hc:=h.cn hk;have hv:S.val of (-(k:Int))= - of.getD k 0:=by simp only[S.val,if_neg hp,Int.neg_neg,zBA]
  obtain⟨x,hx⟩:∃x,x=of.getD k 0:=⟨_,rfl⟩;have hxb: -1<=x/\x<=1:=by have:=hw.tri k;rw[<-hx]at this;omega
  obtain⟨hx1,hx2⟩:=hxb;rw[<-hx]at hc hv;have Hv:=kH hv;clear hv h hw hx
  go_enter func122,ntmps122
  go_wp2;go_ret;exact⟨aBb Hv.out.symm,rfl⟩
theorem aS9(B O n:Nat)(of:List Int)(conf:Bool)(l:Int)(w:World)(h:StAt9 w B O n of conf)(hw:S.Wf n of)(hl:S.isLit n l=true)(hn:n<=4000)(B0:Nat)(hB:B0<=B)(hO:B0<=O):
 Calls prog 75 #[.pointer (some ⟨B,0,none⟩), .int .i64 l] w fun e w'=>e= .returned (.tuple #[])/\Below B0 w w'/\
  ((S.val of l<0/\StAt9 w' B O n of true)\/(0<=S.val of l/\StAt9 w' B O n (S.put of l) conf)):=by
 have hl': -(n:Int)<=l/\l<=n/\l≠0:=by simpa[S.isLit]using hl
 have Hcon:=kH (aP7 B O n of conf l w h hw hl hn);have Hsign:∀W,Calls prog 123 #[.int .i64 l] W fun e w'=>e= .returned (.int .i64 (S.sgn l))/\W=w':=fun W=>bAi l W
 have HS:=kH Hsign;clear Hsign;have H:=kH h;have h1:=h.c1;have hf1:=h.f1;have h0:=h.c0;obtain⟨v,hv⟩:∃v,v=S.val of l:=⟨_,rfl⟩;rw[<-hv]at Hcon⊢;have Hv:=kH hv;clear hv
 by_cases hneg:v<0
 ·clear h
  go_enter func75,ntmps75
  go_wp2_with fail
  refine Hcon.out.mono ?_;rintro e w' ⟨rfl,rfl⟩;go_wp2;refine bodyPost_ret (results_none rfl _ _ _) rfl ?_;exact⟨rfl,(Below.refl _ _).setCell (by exact hB) _, .inl ⟨hneg,H.out.setConf true⟩⟩
 ·by_cases hp:0<l
  ·obtain⟨k,rfl⟩:∃k:Nat,l=k:=⟨l.toNat,by omega⟩;have hk:k<=n:=by omega
   have hc:=h.cn hk;have hfk:=h.fn k;clear h
   go_enter func75,ntmps75
   go_wp2_with fail
   refine Hcon.out.mono ?_;rintro e w' ⟨rfl,rfl⟩
   go_wp2_with fail
   go_region_with ((go_at_call 123;refine(HS.out _).mono ?_;rintro e w' ⟨rfl,rfl⟩))
   all_goals
    go_wp2;refine bodyPost_end (results_none rfl _ _ _) rfl ?_;refine⟨rfl,((Below.refl _ _).drew).setCell (by exact hO) _, .inr ⟨hneg,?_⟩⟩;have hs:=(H.out.dr ((Dr.refl w).drew)).setNum k (S.sgn k);have e1:S.put of (k:Int)=of.set k (S.sgn k):=by simp[S.put]
    rw[e1];exact hs
  ·obtain⟨k,rfl⟩:∃k:Nat,l= -(k:Int):=⟨(-l).toNat,by omega⟩;have hk:k<=n:=by omega
   have hc:=h.cn hk;have hfk:=h.fn k;clear h
   go_enter func75,ntmps75
   go_wp2_with fail
   refine Hcon.out.mono ?_;rintro e w' ⟨rfl,rfl⟩
   go_wp2_with fail
   have hwr:IntKind.i64.wrap (k:Int)=k:=IntWalk.i64_in _ (by omega)
   go_region_with ((go_at_call 123;refine(HS.out _).mono ?_;rintro e w' ⟨rfl,rfl⟩))
   all_goals
    go_wp2;refine bodyPost_end (results_none rfl _ _ _) rfl ?_;refine⟨rfl,((Below.refl _ _).drew).setCell (by exact hO) _, .inr ⟨hneg,?_⟩⟩;have hs:=(H.out.dr ((Dr.refl w).drew)).setNum k (S.sgn (-(k:Int)));have e1:S.put of (-(k:Int))=of.set k (S.sgn (-(k:Int))):=by simp[S.put]
    rw[e1];exact hs
namespace S
def aJg(of:List Int)(conf:Bool)(c:List Int)(b:Bool)(of':List Int)(conf':Bool):Prop:=
 (b=false/\of'=of/\conf'=conf/\Fine (tro of) c)\/(b=true/\of'=of/\conf'=true/\∀m∈c,val of m<0)\/
 (b=true/\conf'=conf/\∃l∈c,val of l=0/\(∀m∈c,m≠l->val of m<0)/\of'=put of l)
def Scan(of:List Int)(p:List Int)(lf:Int)(fd:Bool):Prop:=
 (fd=false/\∀m∈p,val of m<0)\/(fd=true/\lf∈p/\val of lf=0/\∀m∈p,m≠lf->val of m<0)
theorem Scan.neg{of p:List Int}{lf:Int}{fd:Bool}{x:Int}(h:Scan of p lf fd)(hx:val of x<0):Scan of (p ++ [x]) lf fd:=by
 rcases h with⟨h1,h2⟩ |⟨h1,h2,h3,h4⟩
 ·refine .inl ⟨h1,fun m hm=>?_⟩;rcases zBE.1 hm with hm | hm
  ·exact h2 m hm
  ·rw[zBD.1 hm];exact hx
 ·refine .inr ⟨h1,by simp[h2],h3,fun m hm hne=>?_⟩;rcases zBE.1 hm with hm | hm
  ·exact h4 m hm hne
  ·rw[zBD.1 hm];exact hx
theorem Scan.first{of p:List Int}{lf x:Int}(h:Scan of p lf false)(hx:val of x=0):Scan of (p ++ [x]) x true:=by
 rcases h with⟨h1,h2⟩ |⟨h1,_⟩
 ·refine .inr ⟨rfl,by simp,hx,fun m hm hne=>?_⟩;rcases zBE.1 hm with hm | hm
  ·exact h2 m hm
  ·exact absurd (zBD.1 hm) hne
 ·cases h1
theorem Scan.again{of p:List Int}{x:Int}(h:Scan of p x true):Scan of (p ++ [x]) x true:=by
 rcases h with⟨h1,h2⟩ |⟨h1,h2,h3,h4⟩
 ·cases h1
 ·refine .inr ⟨rfl,by simp,h3,fun m hm hne=>?_⟩;rcases zBE.1 hm with hm | hm
  ·exact h4 m hm hne
  ·exact absurd (zBD.1 hm) hne
theorem aJg.inv{cs:List (List Int)}{given:List Int}{n:Nat}{of of':List Int}{conf' b:Bool}{c:List Int}(hi:RInv cs given n of false)(hcs:c∈cs)(hc:isClause n c=true)(h:aJg of false c b of' conf'):
 RInv cs given n of' conf'/\zeros of'<=zeros of/\(∀l,isLit n l=true->val of l=1->val of' l=1)/\(b=false->of'=of/\conf'=false/\Fine (tro of) c)/\(b=true->conf'=true\/zeros of'<zeros of):=by
 have neg:∀m∈c,val of m<0->Der cs given (-m):=fun m hm hv=>by
  have hl:=zAD.1 hc m hm;refine hi.sound (-m) (aCf hl) ?_;rw[aDb _ (aAc hl)];have:=hi.wf.val m;omega
 rcases h with⟨rfl,rfl,rfl,hf⟩ |⟨rfl,rfl,rfl,hall⟩ |⟨rfl,rfl,l,hl,h0,hother,rfl⟩
 ·exact⟨hi,zBJ _,fun _ _ h=>h,fun _=>⟨rfl,rfl,hf⟩,fun h=>by cases h⟩
 ·exact⟨⟨hi.wf,hi.sound,fun _=>aDj hcs fun m hm=>neg m hm (hall m hm)⟩,zBJ _,fun _ _ h=>h,fun h=>(by cases h),fun _=> .inl rfl⟩
 ·have hll:=zAD.1 hc l hl;have hlt:=bAg hi.wf hll h0;refine⟨hi.put hll (.unit_ hcs hl fun m hm hne=>neg m hm (hother m hm hne)),by omega,fun m hm h1=>?_,fun h=>(by cases h),fun _=> .inr hlt⟩;rw[aK6 hi.wf hll m (aAc hm)]
  by_cases e1:m=l
  ·rw[if_pos e1]
  ·rw[if_neg e1,if_neg,h1];rintro rfl;rw[aDb _ (aAc hll),h0]at h1;omega
theorem aP8{n:Nat}{of:List Int}(hw:Wf n of){l:Int}(hl:isLit n l=true)(h0:0<=val of l){m:Int}(hm:isLit n m=true)(h:val of m=1\/m=l):val (put of l) m=1:=by
 rw[aK6 hw hl m (aAc hm)]
 by_cases e1:m=l
 ·rw[if_pos e1]
 ·rw[if_neg e1,if_neg]
  ·exact h.resolve_right e1
  ·rintro rfl;have:=h.resolve_right e1;rw[aDb _ (aAc hl)]at this;omega
def mu(of:List Int)(ch conf:Bool):Nat:=3*zeros of+(if ch then 1 else 0)+(if conf then 0 else 1)
def Head(cs:List (List Int))(given:List Int)(n:Nat)(of:List Int)(conf:Bool):Prop:=RInv cs given n of conf/\(conf=true\/∀l∈given,val of l=1)
def Round(cs:List (List Int))(given:List Int)(n:Nat)(of0:List Int)(k:Nat)(of:List Int)(conf ch:Bool):Prop:=
 Head cs given n of conf/\zeros of<=zeros of0/\(ch=false->of=of0/\conf=false/\∀c∈cs.take k,Fine (tro of) c)/\(ch=true->conf=true\/zeros of<zeros of0)
theorem Round.step{cs:List (List Int)}{given:List Int}{n:Nat}{of0:List Int}{k:Nat}{of of':List Int}{conf' ch b:Bool}{c:List Int}(h:Round cs given n of0 k of false ch)(hck:cs[k]? =some c)(hcs:cs.all (isClause n)=true)(hg:isClause n given=true)
 (hp:aJg of false c b of' conf'):Round cs given n of0 (k+1) of' conf' (b || ch):=by
 obtain⟨⟨hi,hgv⟩,hz,hf,ht⟩:=h;have hm:=zAC hck;obtain⟨i1,i2,i3,i4,i5⟩:=hp.inv hi hm (zAD.1 hcs c hm);refine⟨⟨i1,?_⟩,by omega,?_,?_⟩
 ·rcases hgv with h | h
  ·cases h
  ·exact .inr fun l hl=>i3 l (zAD.1 hg l hl) (h l hl)
 ·cases b
  ·intro hch;simp at hch;obtain⟨e1,e2,e3⟩:=hf hch;obtain⟨e4,e5,e6⟩:=i4 rfl;refine⟨e4.trans e1,e5,fun c' hc'=>?_⟩;rw[List.take_add_one,hck]at hc';rcases zBE.1 hc' with hc' | hc'
   ·rw[e4];exact e3 c' hc'
   ·simp at hc';rw[hc',e4];exact e6
  ·intro hch;simp at hch
 ·intro hch;cases b
  ·simp at hch;obtain⟨e4,e5,_⟩:=i4 rfl;rw[e4,e5];exact ht hch
  ·rcases i5 rfl with h | h
   ·exact .inl h
   ·exact .inr (by omega)
def aK2(cs:List (List Int))(given:List Int)(n:Nat)(of:List Int)(conf:Bool):Prop:=
 Wf n of/\((conf=true/\aA2 cs given)\/(conf=false/\¬aA2 cs given/\∀l,isLit n l=true->(val of l=1↔Der cs given l)))
theorem Head.post{cs:List (List Int)}{given:List Int}{n:Nat}{of:List Int}{conf:Bool}(h:Head cs given n of conf)(hcs:cs.all (isClause n)=true)(hg:isClause n given=true)(hf:conf=true\/∀c∈cs,Fine (tro of) c):aK2 cs given n of conf:=by
 obtain⟨hi,hgv⟩:=h;refine⟨hi.wf,?_⟩;cases conf
 ·have h1:=hgv.resolve_left (by simp);have h2:=hf.resolve_left (by simp);exact .inr ⟨rfl,hi.fin hcs hg h1 h2⟩
 ·exact .inl ⟨rfl,hi.con rfl⟩
theorem bC4(n:Nat):Wf n (List.replicate (n+1) 0):=⟨by simp,fun k=>by simp only[List.getD,List.getElem?_replicate];split <;> simp⟩
theorem bAj(n:Nat)(l:Int):val (List.replicate (n+1) 0) l=0:=by
 unfold val;simp only[List.getD,List.getElem?_replicate];split <;> split <;> simp
theorem bAk(cs:List (List Int))(given:List Int)(n:Nat):RInv cs given n (List.replicate (n+1) 0) false:=⟨bC4 n,fun l _ h=>by rw[bAj]at h;omega,fun h=>by cases h⟩
def aF7(cs:List (List Int))(given:List Int)(n:Nat)(k:Nat)(of:List Int)(conf:Bool):Prop:=RInv cs given n of conf/\(conf=true\/∀l∈given.take k,val of l=1)
theorem aF7.clash{cs:List (List Int)}{given:List Int}{n k:Nat}{of:List Int}{conf:Bool}(h:aF7 cs given n k of conf)(hg:isClause n given=true){l:Int}(hl:given[k]? =some l)(hv:val of l<0):aF7 cs given n (k+1) of true:=
 ⟨h.1.clash (zAD.1 hg l (zAC hl)) (.given_ (zAC hl)) hv, .inl rfl⟩
theorem aF7.put{cs:List (List Int)}{given:List Int}{n k:Nat}{of:List Int}{conf:Bool}(h:aF7 cs given n k of conf)(hg:isClause n given=true){l:Int}(hl:given[k]? =some l)(hv:0<=val of l):aF7 cs given n (k+1) (S.put of l) conf:=by
 have hll:=zAD.1 hg l (zAC hl);refine⟨h.1.put hll (.given_ (zAC hl)),?_⟩;rcases h.2 with h2 | h2
 ·exact .inl h2
 ·refine .inr fun m hm=>?_
  rw[List.take_add_one,hl]at hm;rcases zBE.1 hm with hm | hm
  ·exact aP8 h.1.wf hll hv (zAD.1 hg m (List.mem_of_mem_take hm)) (.inl (h2 m hm))
  ·simp at hm;exact aP8 h.1.wf hll hv (by rw[hm];exact hll) (.inr hm)
end S
theorem aK3{of:List Int}{xs:List Int}{k:Nat}{x:Int}(h:xs[k]? =some x){lf:Int}{fd:Bool}(hs:S.Scan of (xs.take k ++ [x]) lf fd):S.Scan of (xs.take (k+1)) lf fd:=by
 rw[aBc h];exact hs
def bC5(w:World)(B O n B0:Nat)(of:List Int)(conf:Bool)(c:List Int)(e:Ending)(w':World):Prop:=
 ∃b of' conf',e= .returned (.bool b)/\StAt9 w' B O n of' conf'/\Below B0 w w'/\S.aJg of conf c b of' conf'
theorem bC6(B O n:Nat)(of:List Int)(conf:Bool)(A:Option Addr)(m c:Nat)(xs:List Int)(w:World)(h:StAt9 w B O n of conf)(hw:S.Wf n of)(hA:SlAt (IntR .i64) w A m xs)(hc:S.isClause n xs=true)(hn:n<=4000)(B0:Nat)(hB:B0<=B)(hO:B0<=O):
 Calls prog 76 #[.pointer (some ⟨B,0,none⟩), .slice A m c] w (bC5 w B O n B0 of conf xs):=by
 have hl:=hA.le;have HA:=kH hA;clear hA;have H:=kH h;clear h;have Hw:=kH hw;clear hw;have HC:=kH hc;clear hc
 go_enter func76,ntmps76
 go_wp2
 go_loop [5,6,7] (fun a f i=>∃k:Nat,k<=m/\i= .int .i64 k/\∃lf fd,a= .int .i64 lf/\f= .bool fd/\Hid (S.Scan of (xs.take k) lf fd)) (fun _ _ i=>m- (intOf i).toNat)
 case atStart=>exact⟨0,zBL _,rfl,0,false,rfl,rfl, .inl ⟨rfl,fun m hm=>by simp at hm⟩⟩
 case round=>
  obtain⟨k,hk,rfl,lf,fd,rfl,rfl,HT⟩:=hrel
  by_cases hlt:k<m
  ·obtain⟨x,b,off,u,hx,rfl,_,h1,rfl⟩:=HA.out.at_ hlt;have hlx:=aHf HC.out hx;have con:=aP7 B O n of conf x w H.out Hw.out hlx hn;have Hx:=kH hx;clear hx;have Hlx:=kH hlx;clear hlx;obtain⟨v,hv⟩:∃v,v=S.val of x:=⟨_,rfl⟩;rw[<-hv]at con;have Hcon:=kH con;clear con;have Hv:=kH hv;clear hv
   by_cases hpos:0<v
   ·go_wp2_with fail
    refine Hcon.out.mono ?_;rintro e w' ⟨rfl,rfl⟩;go_wp2;go_ret;exact⟨false,of,conf,rfl,H.out,Below.refl _ _, .inl ⟨rfl,rfl,rfl,S.aL2 Hw.out HC.out (.inl ⟨x,zAC Hx.out,by rw[<-Hv.out];exact hpos⟩)⟩⟩
   by_cases h0:v=0
   ·subst h0;cases fd
    ·go_wp2_with fail
     refine Hcon.out.mono ?_;rintro e w' ⟨rfl,rfl⟩;go_wp2
     go_round
     case rel=>exact⟨k+1,by omega,by go_num,x,true,rfl,rfl,aK3 Hx.out (S.Scan.first HT.out Hv.out.symm)⟩
     case measure=>simp[intOf];omega
    ·by_cases he:lf=x
     ·subst he
      go_wp2_with fail
      refine Hcon.out.mono ?_;rintro e w' ⟨rfl,rfl⟩;go_wp2
      go_round
      case rel=>exact⟨k+1,by omega,by go_num,lf,true,rfl,rfl,aK3 Hx.out (S.Scan.again HT.out)⟩
      case measure=>simp[intOf];omega
     ·have hb:(lf != x)=true:=by simpa using he
      have He:=kH he;clear he
      go_wp2_with fail
      refine Hcon.out.mono ?_;rintro e w' ⟨rfl,rfl⟩;go_wp2;go_ret;refine⟨false,of,conf,rfl,H.out,Below.refl _ _, .inl ⟨rfl,rfl,rfl,S.aL2 Hw.out HC.out (.inr ?_)⟩⟩;rcases HT.out with⟨h1,_⟩ |⟨_,h2,h3,_⟩
      ·cases h1
      ·exact⟨lf,List.mem_of_mem_take h2,x,zAC Hx.out,He.out,h3,Hv.out.symm⟩
   ·have hb:(v == 0)=false:=by simpa using h0
    have hneg:v<0:=by omega
    clear hpos h0
    go_wp2_with fail
    refine Hcon.out.mono ?_;rintro e w' ⟨rfl,rfl⟩;go_wp2
    go_round
    case rel=>exact⟨k+1,by omega,by go_num,lf,fd,rfl,rfl,aK3 Hx.out (S.Scan.neg HT.out (by rw[<-Hv.out];exact hneg))⟩
    case measure=>simp[intOf];omega
  ·have hT:=HT.out;rw[aB0 HA.out.len (by omega)]at hT;have HT2:=kH hT;clear hT HT;have h1:=H.out.c1;have hf1:=H.out.f1;have h0:=H.out.c0;cases fd
   ·go_wp2;go_ret;refine⟨true,of,true,rfl,H.out.setConf true,(Below.refl _ _).setCell (by exact hB) _, .inr (.inl ⟨rfl,rfl,rfl,?_⟩)⟩;rcases HT2.out with⟨_,h2⟩ |⟨h2,_⟩
    ·exact h2
    ·cases h2
   ·have hS:lf∈xs/\S.val of lf=0/\∀m∈xs,m≠lf->S.val of m<0:=by
     rcases HT2.out with⟨h2,_⟩ |⟨_,h2⟩
     ·cases h2
     ·exact h2
    have con:=aS9 B O n of conf lf w H.out Hw.out (zAD.1 HC.out lf hS.1) hn B0 hB hO;have Hcon:=kH con;clear con;have HS:=kH hS;clear hS
    go_wp2_with fail
    refine Hcon.out.mono ?_;rintro e w' ⟨rfl,hbw,hpost⟩;have HP:=kH hpost;clear hpost;go_wp2;go_ret;rcases HP.out with⟨h2,_⟩ |⟨_,hst⟩
    ·have:=HS.out.2.1;omega
    ·exact⟨true,S.put of lf,conf,rfl,hst,hbw, .inr (.inr ⟨rfl,rfl,lf,HS.out.1,HS.out.2.1,HS.out.2.2,rfl⟩)⟩
def bAl(w:World)(cs:List (List Int))(given:List Int)(n:Nat)(e:Ending)(w':World):Prop:=
 ∃B O of conf,e= .returned (.pointer (some ⟨B,0,none⟩))/\StAt9 w' B O n of conf/\Below w.heap.size w w'/\S.aK2 cs given n of conf
theorem StAt9.start(w:World)(n:Nat):StAt9 ((w.alloc (.cells (Array.replicate (n+1) (.int .i64 0)) 3)).alloc (.cells #[.slice (some ⟨w.heap.size,0,none⟩) (n+1) (n+1), .bool false] 87)) (w.heap.size+1) w.heap.size n (List.replicate (n+1) 0) false:=by
 refine⟨?_,?_,by simp,by omega⟩
 ·have h:=Go.heap_alloc_new (w.alloc (.cells (Array.replicate (n+1) (.int .i64 0)) 3)) (.cells #[.slice (some ⟨w.heap.size,0,none⟩) (n+1) (n+1), .bool false] 87);simpa using h
 ·rw[Below.heap_alloc _ _ _ (by simp),Go.heap_alloc_new];simp
theorem aP9(n:Nat)(A D:Option Addr)(m c p d:Nat)(cs:List (List Int))(given:List Int)(w:World)(hA:SlAt (SlR (IntR .i64)) w A m cs)(hD:SlAt (IntR .i64) w D p given)(hcs:cs.all (S.isClause n)=true)(hg:S.isClause n given=true)(hn:n<=4000):
 Calls prog 50 #[.int .i64 n, .slice A m c, .slice D p d] w (bAl w cs given n):=by
 have hl:=hA.le;have hpl:=hD.le;have HA:=kH hA;clear hA;have HD:=kH hD;clear hD;have HC:=kH hcs;clear hcs;have HG:=kH hg;clear hg;have hmk:=fun W=>aBd (P:=prog) 37 3 (.int .i64 0) 8 underlying37 Tryz.infoInt rfl .i64 .i64 (n+1) ((n:Int)+1) (by omega) (by omega) (by omega) W
 obtain⟨W0,hW0⟩:∃W0,W0=((w.alloc (.cells (Array.replicate (n+1) (.int .i64 0)) 3)).alloc (.cells #[.slice (some ⟨w.heap.size,0,none⟩) (n+1) (n+1), .bool false] 87)):=⟨_,rfl⟩;have hst0:=StAt9.start w n;have hb0:Below w.heap.size w W0:=by rw[hW0];exact(al0).alloc (by simp) _
 rw[<-hW0]at hst0;have HW0:=kH hW0;clear hW0;have Hst0:=kH hst0;clear hst0
 go_enter func50,ntmps50
 go_wp2;rw[<-HW0.out];clear hmk
 go_loopg [8] (p+1) (fun g i wr=>∃k of conf,k<=p/\i= .int .i64 (k:Nat)/\g+k=p+1/\StAt9 wr (w.heap.size+1) w.heap.size n of conf/\Below w.heap.size w wr/\S.aF7 cs given n k of conf)
 case atStart=>exact⟨0,_,_,zBL _,rfl,rfl,Hst0.out,hb0,S.bAk cs given n, .inr (fun l hl=>by simp at hl)⟩
 case round=>
  obtain⟨k,of,conf,hk,rfl,hgk,hst,hbw,hgv⟩:=hrel;have Hst:=kH hst;clear hst;have Hgv:=kH hgv;clear hgv;have Hgk:=kH hgk;clear hgk
  by_cases hlt:k<p
  ·obtain⟨x,b,off,u,hx,rfl,_,h1,rfl⟩:=(HD.out.below (aAd _) hbw).at_ hlt;have con:=aS9 _ _ n of conf x wr Hst.out Hgv.out.1.wf (aHf HG.out hx) hn w.heap.size (by omega) (zBJ _);have Hcon:=kH con;clear con;have Hx:=kH hx;clear hx
   go_wp2_with fail
   refine Hcon.out.mono ?_;rintro e w1 ⟨rfl,hb1,hpost⟩;have HP:=kH hpost;clear hpost;go_wp2
   go_roundg (gk-1)
   case measure=>have:=Hgk.out;omega
   case rel=>
    have:=Hgk.out;rcases HP.out with⟨hv,hs1⟩ |⟨hv,hs1⟩
    ·exact⟨k+1,of,true,by omega,by go_num,by omega,hs1,hbw.trans hb1,Hgv.out.clash HG.out Hx.out hv⟩
    ·exact⟨k+1,_,conf,by omega,by go_num,by omega,hs1,hbw.trans hb1,Hgv.out.put HG.out Hx.out hv⟩
  ·have hhead:S.Head cs given n of conf:=by
    have h1:=Hgv.out.2;rw[aB0 HD.out.len (by omega)]at h1;exact⟨Hgv.out.1,h1⟩
   have Hhead:=kH hhead;clear hhead Hgv;go_wp2
   go_loopg [9] (S.mu of true conf) (fun g ch wr=>∃of conf b,ch= .bool b/\g=S.mu of b conf/\StAt9 wr (w.heap.size+1) w.heap.size n of conf/\Below w.heap.size w wr/\S.Head cs given n of conf/\(b=true\/conf=true\/∀c∈cs,S.Fine (S.tro of) c))
   case atStart=>exact⟨of,conf,true,rfl,rfl,Hst.out,hbw,Hhead.out, .inl rfl⟩
   case round=>
    clear Hst Hhead hbw;obtain⟨of,conf,b,rfl,hgk,hst,hbw,hhead,hb⟩:=hrel;have Hst:=kH hst;clear hst;have Hhead:=kH hhead;clear hhead;have Hgk2:=kH hgk;clear hgk;have Hb:=kH hb;clear hb;have h1:=Hst.out.c1
    by_cases hgo:b=true/\conf=false
    case neg=>
     have fin:(b=false\/conf=true):=by cases b <;> cases conf <;> simp_all
     have done:S.aK2 cs given n of conf:=Hhead.out.post HC.out HG.out (by
      rcases fin with rfl | rfl
      ·exact Hb.out.resolve_left (by simp)
      ·exact .inl rfl)
     have Hdone:=kH done;clear done;clear hgo;cases b
     ·go_wp2;go_ret;exact⟨_,_,of,conf,rfl,Hst.out,hbw,Hdone.out⟩
     ·obtain rfl:conf=true:=by simpa using fin
      go_wp2;go_ret;exact⟨_,_,of,true,rfl,Hst.out,hbw,Hdone.out⟩
    obtain⟨rfl,rfl⟩:=hgo;go_wp2
    go_loopg [9,10] (m+1) (fun g ch i wr=>∃k of1 conf1 b,k<=m/\i= .int .i64 (k:Nat)/\ch= .bool b/\g+k=m+1/\StAt9 wr (w.heap.size+1) w.heap.size n of1 conf1/\Below w.heap.size w wr/\S.Round cs given n of k of1 conf1 b)
    case atStart=>exact⟨0,of,false,false,zBL _,rfl,rfl,rfl,Hst.out,hbw,Hhead.out,zBJ _,fun _=>⟨rfl,rfl,fun c hc=>by simp at hc⟩,fun h=>by cases h⟩
    case round=>
     clear h1 Hst hbw;obtain⟨k,of1,conf1,b,hk,rfl,rfl,hgk,hst,hbw,hround⟩:=hrel;have Hst:=kH hst;clear hst;have Hround:=kH hround;clear hround;have Hgk3:=kH hgk;clear hgk;have h1:=Hst.out.c1
     by_cases hlt:k<m
     ·cases conf1
      ·obtain⟨x,b',off,u,hx,rfl,_,h2,A1,c1,rfl,s1⟩:=(HA.out.below (aC9 (aAd _)) hbw).at_ hlt;have con:=bC6 _ _ n of1 false A1 x.length c1 x wr Hst.out Hround.out.1.1.wf s1 (bAh HC.out hx) hn w.heap.size (by omega) (zBJ _);clear s1;have Hcon:=kH con;clear con;have Hx:=kH hx;clear hx
       go_wp2_with fail
       refine Hcon.out.mono ?_;rintro e w1 ⟨b2,of2,conf2,rfl,hs2,hb2,hpost⟩;have HP:=kH hpost;clear hpost;have Hs2:=kH hs2;clear hs2;have hstep:=Hround.out.step Hx.out HC.out HG.out HP.out;have Hstep:=kH hstep;clear hstep;cases b2 <;> cases b
       all_goals
        go_wp2
        go_roundg (gk-1)
        case measure=>have:=Hgk3.out;omega
        case rel=>
         have:=Hgk3.out;exact⟨k+1,of2,conf2,_,by omega,by go_num,rfl,by omega,Hs2.out,hbw.trans hb2,Hstep.out⟩
      ·go_wp2
       go_roundg (S.mu of1 b true)
       case measure=>
        rw[Hgk2.out];have:=Hround.out.2.1;unfold S.mu;cases b <;> simp <;> omega
       case rel=>exact⟨of1,true,b,rfl,rfl,Hst.out,hbw,Hround.out.1, .inr (.inl rfl)⟩
     ·have hall:b=true\/conf1=true\/∀c∈cs,S.Fine (S.tro of1) c:=by
       cases b
       ·obtain⟨_,_,h3⟩:=Hround.out.2.2.1 rfl;rw[aB0 HA.out.len (by omega)]at h3;exact .inr (.inr h3)
       ·exact .inl rfl
      have Hall:=kH hall;clear hall;go_wp2
      go_roundg (S.mu of1 b conf1)
      case measure=>
       rw[Hgk2.out];have h3:=Hround.out.2.1;have h4:=Hround.out.2.2.1;have h5:=Hround.out.2.2.2;unfold S.mu;cases b <;> cases conf1 <;> simp_all <;> omega
      case rel=>exact⟨of1,conf1,b,rfl,rfl,Hst.out,hbw,Hround.out.1,Hall.out⟩
end
end Go.Proofs.YtchdbhggbdcapaaGreat
