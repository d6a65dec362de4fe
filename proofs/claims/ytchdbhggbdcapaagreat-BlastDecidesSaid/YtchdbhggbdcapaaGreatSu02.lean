/- Part. -/
import Derived.Test.YtchdbhggbdcapaaGreatSuLX
import Derived.Test.YtchdbhggbdcapaaGreatProg
import Derived.Test.YtchdbhggbdcapaaGreatSu01
set_option linter.unusedVariables false
set_option linter.unusedSimpArgs false
set_option maxRecDepth 100000
set_option maxHeartbeats 16000000
namespace Go.Proofs.YtchdbhggbdcapaaGreat
open _root_.Go.Proofs.Tryz
section
open Go.RowKit
theorem aA5{a b:Bool}(h:a=b):Ending.returned (.bool a)= .returned (.bool b):=by rw[h]
theorem aBb{k:IntKind}{a b:Int}(h:a=b):Ending.returned (.int k a)= .returned (.int k b):=by rw[h]
theorem aBc{α:Type}{xs:List α}{k:Nat}{x:α}(h:xs[k]? =some x):xs.take (k+1)=xs.take k ++ [x]:=by
 rw[List.take_add_one,h];rfl
theorem aB0{α:Type}{xs:List α}{n k:Nat}(hn:xs.length=n)(h:n<=k):xs.take k=xs:=zAK (by omega)
theorem aF2{n l:Int}(hn:0<=n/\n<=4000)(h:S.isLit n l=true): -4000<=l/\l<=4000/\l≠0:=by
 unfold S.isLit at h;simp at h;omega
theorem aQe(n l:Int)(w:World)(hn:0<=n)(hm:n<=4000):
 Calls prog 105 #[.int .i64 n, .int .i64 l] w fun e w'=>e= .returned (.bool (S.isLit n l))/\w=w':=by
 by_cases h1: -n<=l
 ·by_cases h2:l<=n
  ·by_cases h3:l=0
   ·subst h3
    go_enter func105,ntmps105
    go_wp2;go_ret;exact⟨aA5 (by simp[S.isLit]),rfl⟩
   ·have hb:(l != 0)=true:=by simpa using h3
    go_enter func105,ntmps105
    go_wp2;go_ret;exact⟨aA5 (by simp[S.isLit,h1,h2,h3]),rfl⟩
  ·go_enter func105,ntmps105
   go_wp2;go_ret;exact⟨aA5 (by simp[S.isLit];intros;omega),rfl⟩
 ·go_enter func105,ntmps105
  go_wp2;go_ret;exact⟨aA5 (by simp[S.isLit];intros;omega),rfl⟩
theorem aFm{α:Type}{p:α->Bool}{xs:List α}{n k:Nat}(hn:xs.length=n)(hk:n<=k)(h:(xs.take k).all p=true):xs.all p=true:=by rwa [aB0 hn hk]at h
theorem aEy{α:Type}{p:α->Bool}{xs:List α}{k:Nat}{x:α}(h:xs[k]? =some x)(hp:p x=false):xs.all p=false:=by
 rw[List.all_eq_false];exact⟨x,zAC h,by simp[hp]⟩
theorem aJ4{α:Type}{p:α->Bool}{xs:List α}{k:Nat}{x:α}(h:xs[k]? =some x)(hp:p x=true):xs.any p=true:=
 List.any_eq_true.2 ⟨x,zAC h,hp⟩
theorem aEj{α:Type}{p:α->Bool}{xs:List α}{k:Nat}{x:α}(h:xs[k]? =some x)(ht:(xs.take k).all p=true)(hp:p x=true):(xs.take (k+1)).all p=true:=by
 rw[aBc h,List.all_append,ht];simp[hp]
theorem aH9{α:Type}{p:α->Bool}{xs:List α}{k:Nat}{x:α}(h:xs[k]? =some x)(ht:(xs.take k).any p=false)(hp:p x=false):(xs.take (k+1)).any p=false:=by
 rw[aBc h,List.any_append,ht];simp[hp]
theorem aDo{n:Int}{xs:List (List Int)}(h:S.aAe n xs=0):0<=n/\n<=4000/\xs.length<=24000/\xs.all (S.isClause n)=true:=by
 unfold S.aAe at h;split at h
 ·omega
 ·split at h
  ·rename_i h1 h2;exact⟨by omega,by omega,by omega,h2⟩
  ·omega
theorem aHf{n:Int}{x:List Int}{k:Nat}{l:Int}(h:S.isClause n x=true)(hx:x[k]? =some l):S.isLit n l=true:=
 zAD.1 h l (zAC hx)
section
variable {w w' : World} {B O n : Nat} {of : List Int} {conf : Bool}
theorem heap_setCell_same(w:World)(g i:Nat)(cs:Array Value)(t:TypeId)(u:Value)(hg:w.heap[g]? =some (.cells cs t (0,0))):(w.setCell ⟨g,i,none⟩ u).heap[g]? =some (.cells (cs.setIfInBounds i u) t (0,0)):=by
 simp[World.setCell,Array.getElem?_modify,hg]
end
theorem Tryz.infoInt:(prog.info? 3).map (fun i=>(i.zero,i.size,i.bytes))=some (some (.int .i64 0),1,8):=by kernel_rfl
namespace S
theorem aJm{n:Int}{c:List Int}(h:isClause n c=true):isClause n (negs c)=true:=by
 unfold isClause negs at*;rw[zAD]at h⊢;intro x hx;obtain⟨y,hy,rfl⟩:=zBU.1 hx;exact aCf (h y hy)
end S
theorem OwnAt.appended{w':World}{e:TypeId}{v':Value}{n:Nat}{q:IntKind}{ys:List Int}{x:Int}(h:OwnAt w' e 1 v' (n+1) (ys.map (Value.int q)++ [.int q x])):OwnAt w' e 1 v' (n+1) ((ys ++ [x]).map (Value.int q)):=by
 simpa using h
theorem aCw{w0 w w':World}{B:Nat}{v v':Value}{o:Obj}(hb:Below B w0 w)(hB:B<=w.heap.size)(hv:∀g,v.ownBlock=some g->B<=g)(hg:(w.alloc o).grownBy w' v.ownBlock)
 (hat:v'.ownBlock=v.ownBlock\/v'.ownBlock=some (w.heap.size+1)):Below B w0 w'/\∀g,v'.ownBlock=some g->B<=g:=by
 refine⟨(hb.alloc hB o).grown hg (by simp;omega) hv,fun g hgv=>?_⟩;rcases hat with h | h
 ·exact hv g (by rw[<-h];exact hgv)
 ·rw[h]at hgv;cases hgv;omega
end
section
open Go.RowKit Go.Maps
structure TrAt(w:World)(B0 T M:Nat)(l:List (Int×Bool))(qv:Value)(q:List Int):Prop where
 st:w.heap[T]? =some (.cells #[.map (some M),qv] 207 (0,0))
 map_:MapAt prog 3 (Value.int .i64) BoolK w M l
 own:OwnAt w 3 1 qv q.length (q.map (Value.int .i64))
 bT:B0<=T
 bM:B0<=M
 bq:∀g,qv.ownBlock=some g->B0<=g
def trl(l:List (Int×Bool))(x:Int):Bool:=(AL.get l x).getD false
theorem aG4(l:List (Int×Bool))(x:Int):trl (AL.put l x true)=S.also (trl l) x:=by
 funext y
 unfold trl S.also
 by_cases h:y=x
 ·subst h;simp[AL.get_put_same]
 ·rw[AL.get_put_other _ _ h,if_neg h]
section
variable {w w' : World} {B0 T M : Nat} {l : List (Int × Bool)} {qv : Value} {q : List Int}
theorem aHu{κ α:Type}{P:Program}{kt:TypeId}{ek:κ->Value}{R:World->κ->Value->α->Prop}{w:World}{b:Nat}{l:List (κ×α)}(h:MapAt P kt ek R w b l){cs:Array Value}{e:TypeId}{fr:Nat×Nat}(hc:w.heap[b]? =some (.cells cs e fr)):False:=by
 obtain⟨es,clock,hb,_⟩:=h;rw[hb]at hc;cases hc
theorem TrAt.neM(h:TrAt w B0 T M l qv q):T≠M:=fun e=>aHu h.map_ (by rw[<-e];exact h.st)
theorem aC4{w:World}{e:TypeId}{s n:Nat}{v:Value}{xs:List Value}(h:OwnAt w e s v n xs){g:Nat}{cs:Array Value}{t:TypeId}(hg:w.heap[g]? =some (.cells cs t (0,0)))(hne:e≠t):v.ownBlock≠some g:=by
 rcases h.2 with⟨rfl,_⟩ |⟨g',off,cap,cur,rfl,hh,_⟩
 ·simp[Value.ownBlock]
 ·intro he;have:g'=g:=by simpa[Value.ownBlock]using he
  subst this;rw[hg]at hh;injection hh with hh;injection hh with _ ht;exact hne ht.symm
theorem aDk{κ α:Type}{P:Program}{kt:TypeId}{ek:κ->Value}{R:World->κ->Value->α->Prop}{w:World}{b:Nat}{l:List (κ×α)}(hm:MapAt P kt ek R w b l){e:TypeId}{s n:Nat}{v:Value}{xs:List Value}(h:OwnAt w e s v n xs):v.ownBlock≠some b:=by
 rcases h.2 with⟨rfl,_⟩ |⟨g',off,cap,cur,rfl,hh,_⟩
 ·simp[Value.ownBlock]
 ·intro he;have:g'=b:=by simpa[Value.ownBlock]using he
  subst this;exact aHu hm hh
theorem TrAt.qT(h:TrAt w B0 T M l qv q):qv.ownBlock≠some T:=aC4 h.own h.st (by decide)
theorem TrAt.qM(h:TrAt w B0 T M l qv q):qv.ownBlock≠some M:=aDk h.map_ h.own
theorem TrAt.c0(h:TrAt w B0 T M l qv q):w.cell? ⟨T,0,none⟩=some (.map (some M)):=by rw[cell_of_row w T 0 _ _ _ h.st];rfl
theorem TrAt.c1(h:TrAt w B0 T M l qv q):w.cell? ⟨T,1,none⟩=some qv:=by rw[cell_of_row w T 1 _ _ _ h.st];rfl
theorem TrAt.f1(h:TrAt w B0 T M l qv q):w.frozen? ⟨T,1,none⟩=false:=by simp[World.frozen?,h.st]
theorem TrAt.ltT(h:TrAt w B0 T M l qv q):T<w.heap.size:=(gA h.st).1
theorem TrAt.lk(h:TrAt w B0 T M l qv q){x:Int}(hx: -4000<=x/\x<=4000):(Instr.lookup 205 (.map (some M)) (.int .i64 x) false).run prog w= .ok (.bool (trl l x)) w:=
 h.map_.lookup_bool (int_keyed underlying3) (aBe .i64) underlying205 (by kernel_rfl) (keyOf_int_mk underlying3 (WalkArith.wf_i64 (by omega)))
end
def bAv(w:World)(B0 T M:Nat)(l:List (Int×Bool))(qv:Value)(q:List Int)(x:Int)(e:Ending)(w':World):Prop:=
 ∃l' qv' q',e= .returned (.bool (!trl l' (-x)))/\TrAt w' B0 T M l' qv' q'/\Below B0 w w'/\((trl l x=true/\l'=l/\q'=q)\/(trl l x=false/\l'=AL.put l x true/\q'=q ++ [x]))
theorem aPa(B0 T M:Nat)(l:List (Int×Bool))(qv:Value)(q:List Int)(x:Int)(w:World)(h:TrAt w B0 T M l qv q)(hx: -4000<=x/\x<=4000)(hq:q.length<=100000):
 Calls prog 187 #[.pointer (some ⟨T,0,none⟩), .int .i64 x] w (bAv w B0 T M l qv q x):=by
 obtain⟨hx1,hx2⟩:=hx;have H:=kH h;have hc0:=h.c0;have hlk:=h.lk (x:=x) (by omega);clear h;cases ht:trl l x
 ·rw[ht]at hlk;have Ht:=kH ht;clear ht;obtain⟨A,c,hqv⟩:=H.out.own.form;subst hqv
  go_enter func187,ntmps187
  go_wp2_with (first
   | (at_mapUpdate
      refine aJy rfl (.tmp 15) (.tmp 16) _ rfl H.out.map_ (int_keyed underlying3) (aBe .i64) underlying205 x (.bool true) (keyOf_int_mk underlying3 (WalkArith.wf_i64 (by omega))) rfl rfl rfl ?_;intro w1 hg1 hsz1 hmap1;have hT1:w1.heap[T]? =some (.cells #[.map (some M), .slice A q.length c] 207 (0,0)):=(hg1.block T H.out.ltT (fun e=>H.out.neM (zAH e))).trans H.out.st;have HM1:=kH (hmap1 BoolK true (fun _ _ _ _ h=>h) rfl);have Hown1:=kH (H.out.own.kept hg1 (.inr H.out.qM));have HT1:=kH hT1;have hc1:w1.cell? ⟨T,1,none⟩=some (.slice A q.length c):=by rw[cell_of_row w1 T 1 _ _ _ hT1];rfl
      have Hb1:=kH (show Below B0 w w1 from(Below.refl B0 w).grown hg1 (Nat.le_of_lt (Nat.lt_of_le_of_lt H.out.bT H.out.ltT)) (fun k hk=>by cases hk;exact H.out.bM));have hB1:B0<=w1.heap.size:=by rw[hsz1];exact Nat.le_of_lt (Nat.lt_of_le_of_lt H.out.bT H.out.ltT)
      clear hlk hc0 hmap1 hT1 hsz1 hg1)
   | (at_builtin
      refine aAk _ rfl (.tmp 21) (.tmp 23) 37 rfl 3 (.int .i64 0) 8 underlying37 Tryz.infoInt rfl _ q.length _ rfl Hown1.out (.int .i64 x) rfl 3 rfl (by omega) (by omega) ?_;intro v' w2 hown2 hg2 hat2;have hTlt:T<w1.heap.size:=(gA HT1.out).1;have hqT:(Value.slice A q.length c).ownBlock≠some T:=aC4 Hown1.out HT1.out (by decide);have hqM:(Value.slice A q.length c).ownBlock≠some M:=aDk HM1.out Hown1.out;have hT2:w2.heap[T]? =some (.cells #[.map (some M), .slice A q.length c] 207 (0,0)):=(hg2.block T (by simp;omega) (fun e=>hqT e.symm)).trans ((Below.heap_alloc w1 _ T hTlt).trans HT1.out);have hMlt:=HM1.out.lt;have HM2:=kH (HM1.out.keep (R':=BoolK) ((hg2.block M (by simp;omega) (fun e=>hqM e.symm)).trans (Below.heap_alloc w1 _ M hMlt)) (fun _ _ _ h=>h));have hbb:=aCw (w0:=w) (B:=B0) Hb1.out hB1 (fun g hg=>H.out.bq g hg) hg2 hat2;have Hown2:=kH hown2.appended;have Hbb:=kH hbb;have HT2:=kH hT2;have hf2:w2.frozen? ⟨T,1,none⟩=false:=by simp[World.frozen?,hT2]
      have hc2:w2.cell? ⟨T,1,none⟩=some (.slice A q.length c):=by rw[cell_of_row w2 T 1 _ _ _ hT2];rfl
      obtain⟨A2,c2,rfl⟩:=Hown2.out.form;have htr:TrAt (w2.setCell ⟨T,1,none⟩ (.slice A2 (q.length+1) c2)) B0 T M (AL.put l x true) (.slice A2 (q.length+1) c2) (q ++ [x]):=by
       have hqT2:(Value.slice A2 (q.length+1) c2).ownBlock≠some T:=aC4 Hown2.out hT2 (by decide);refine⟨by rw[heap_setCell_same w2 T 1 _ _ _ hT2];rfl,HM2.out.keep (Below.heap_setCell w2 _ _ M H.out.neM.symm) (fun _ _ _ h=>h),?_,H.out.bT,H.out.bM,Hbb.out.2⟩;have h3:=Hown2.out.setCell (p:=⟨T,1,none⟩) hqT2 (.slice A2 (q.length+1) c2);simpa using h3
      have hlk2:=htr.lk (x:= -x) (by omega);have hc02:w2.cell? ⟨T,0,none⟩=some (.map (some M)):=by rw[cell_of_row w2 T 0 _ _ _ hT2];rfl
      have Htr:=kH htr;clear htr hc1 hbb hown2 hg2 hat2 hT2 hqT hqM hTlt hMlt hB1))
  go_ret;exact⟨_,_,_,rfl,Htr.out,Hbb.out.1.setCell (by exact H.out.bT) _, .inr ⟨Ht.out,rfl,rfl⟩⟩
 ·rw[ht]at hlk;have Ht:=kH ht;clear ht;have hlk2:=H.out.lk (x:= -x) (by omega)
  go_enter func187,ntmps187
  go_wp2;go_ret;exact⟨l,qv,q,rfl,H.out,Below.refl _ _, .inl ⟨Ht.out,rfl,rfl⟩⟩
namespace S
def PScan(tr:Int->Bool)(p:List Int)(op:Int):Prop:=
 (op=0/\∀m∈p,tr m=false/\tr (-m)=true)\/(op≠0/\op∈p/\Opn tr op/\∀m∈p,m≠op->tr m=false/\tr (-m)=true)
theorem PScan.neg{tr:Int->Bool}{p:List Int}{op x:Int}(h:PScan tr p op)(h1:tr x=false)(h2:tr (-x)=true):PScan tr (p ++ [x]) op:=by
 rcases h with⟨h0,ha⟩ |⟨h0,hm,ho,ha⟩
 ·refine .inl ⟨h0,fun m hm=>?_⟩;rcases zBE.1 hm with hm | hm
  ·exact ha m hm
  ·rw[zBD.1 hm];exact⟨h1,h2⟩
 ·refine .inr ⟨h0,by simp[hm],ho,fun m hm hne=>?_⟩;rcases zBE.1 hm with hm | hm
  ·exact ha m hm hne
  ·rw[zBD.1 hm];exact⟨h1,h2⟩
theorem PScan.first{tr:Int->Bool}{p:List Int}{x:Int}(h:PScan tr p 0)(hx:x≠0)(h1:tr x=false)(h2:tr (-x)=false):PScan tr (p ++ [x]) x:=by
 rcases h with⟨_,ha⟩ |⟨h0,_⟩
 ·refine .inr ⟨hx,by simp,⟨h1,h2⟩,fun m hm hne=>?_⟩;rcases zBE.1 hm with hm | hm
  ·exact ha m hm
  ·exact absurd (zBD.1 hm) hne
 ·exact absurd rfl h0
theorem PScan.again{tr:Int->Bool}{p:List Int}{x:Int}(h:PScan tr p x)(hx:x≠0):PScan tr (p ++ [x]) x:=by
 rcases h with⟨h0,_⟩ |⟨h0,hm,ho,ha⟩
 ·exact absurd h0 hx
 ·refine .inr ⟨h0,by simp[hm],ho,fun m hm hne=>?_⟩;rcases zBE.1 hm with hm | hm
  ·exact ha m hm hne
  ·exact absurd (zBD.1 hm) hne
def PLook(l:List (Int×Bool))(q:List Int)(c:List Int)(b:Bool)(l':List (Int×Bool))(q':List Int):Prop:=
 (b=true/\l'=l/\q'=q/\Fine (trl l) c)\/(b=false/\l'=l/\q'=q/\∀m∈c,trl l m=false/\trl l (-m)=true)\/
 (b=true/\∃y∈c,Opn (trl l) y/\(∀m∈c,m≠y->trl l m=false/\trl l (-m)=true)/\l'=AL.put l y true/\q'=q ++ [y])
end S
theorem aGs{tr:Int->Bool}{xs:List Int}{k:Nat}{x op:Int}(h:xs[k]? =some x)(hs:S.PScan tr (xs.take k ++ [x]) op):S.PScan tr (xs.take (k+1)) op:=by
 rw[aBc h];exact hs
def aYd(w:World)(B0 T M:Nat)(l:List (Int×Bool))(q:List Int)(c:List Int)(e:Ending)(w':World):Prop:=
 ∃b l' qv' q',e= .returned (.bool b)/\TrAt w' B0 T M l' qv' q'/\Below B0 w w'/\S.PLook l q c b l' q'
theorem aPb(B0 T M:Nat)(l:List (Int×Bool))(qv:Value)(q:List Int)(n:Nat)(A:Option Addr)(m c:Nat)(xs:List Int)(w:World)(h:TrAt w B0 T M l qv q)(hA:SlAt (IntR .i64) w A m xs)(hc:S.isClause n xs=true)(hn:n<=4000)(hq:q.length<=100000):
 Calls prog 186 #[.pointer (some ⟨T,0,none⟩), .slice A m c] w (aYd w B0 T M l q xs):=by
 have hl:=hA.le;have HA:=kH hA;clear hA;have H:=kH h;clear h;have HC:=kH hc;clear hc;have hc0:=H.out.c0
 go_enter func186,ntmps186
 go_wp2
 go_loop [5,10] (fun a i=>∃k:Nat,k<=m/\i= .int .i64 k/\∃op,a= .int .i64 op/\-4000<=op/\op<=4000/\Hid (S.PScan (trl l) (xs.take k) op)) (fun _ i=>m- (intOf i).toNat)
 case atStart=>exact⟨0,zBL _,rfl,0,rfl,by omega,by omega, .inl ⟨rfl,fun m hm=>by simp at hm⟩⟩
 case round=>
  obtain⟨k,hk,rfl,op,rfl,ho1,ho2,HT⟩:=hrel
  by_cases hlt:k<m
  ·obtain⟨x,b,off,u,hx,rfl,_,h1,rfl⟩:=HA.out.at_ hlt;obtain⟨hx1,hx2,hx3⟩:=aF2 ⟨by omega,by omega⟩ (aHf HC.out hx);have Hx:=kH hx;clear hx;have hlk:=H.out.lk (x:=x) (by omega);have hlk2:=H.out.lk (x:= -x) (by omega);have Hx3:=kH hx3;clear hx3;cases ht:trl l x
   ·cases ht2:trl l (-x)
    ·rw[ht]at hlk;rw[ht2]at hlk2;have Ht:=kH ht;clear ht;have Ht2:=kH ht2;clear ht2
     by_cases h0:op=0
     ·subst h0;go_wp2
      go_round
      case rel=>exact⟨k+1,by omega,by go_num,x,rfl,by omega,by omega,aGs Hx.out (S.PScan.first HT.out Hx3.out Ht.out Ht2.out)⟩
      case measure=>simp[intOf];omega
     ·have hb0:(op != 0)=true:=by simpa using h0
      by_cases he:x=op
      ·subst he;have H0:=kH h0;clear h0;go_wp2
       go_round
       case rel=>exact⟨k+1,by omega,by go_num,x,rfl,by omega,by omega,aGs Hx.out (S.PScan.again HT.out H0.out)⟩
       case measure=>simp[intOf];omega
      ·have hb:(x != op)=true:=by simpa using he
       have H0:=kH h0;clear h0;have He:=kH he;clear he;go_wp2;go_ret;refine⟨true,l,qv,q,rfl,H.out,Below.refl _ _, .inl ⟨rfl,rfl,rfl, .inr ?_⟩⟩;rcases HT.out with⟨h2,_⟩ |⟨_,h2,h3,_⟩
       ·exact absurd h2 H0.out
       ·exact⟨op,List.mem_of_mem_take h2,x,zAC Hx.out,fun e=>He.out e.symm,h3,⟨Ht.out,Ht2.out⟩⟩
    ·rw[ht]at hlk;rw[ht2]at hlk2;have Ht:=kH ht;clear ht;have Ht2:=kH ht2;clear ht2
     by_cases h0:op=0
     ·subst h0;go_wp2
      go_round
      case rel=>exact⟨k+1,by omega,by go_num,0,rfl,by omega,by omega,aGs Hx.out (S.PScan.neg HT.out Ht.out Ht2.out)⟩
      case measure=>simp[intOf];omega
     ·have hb0:(op != 0)=true:=by simpa using h0
      have he:x≠op:=by
       rintro rfl;rcases HT.out with⟨h2,_⟩ |⟨_,_,h3,_⟩
       ·exact h0 h2
       ·have:=h3.2;rw[Ht2.out]at this;cases this
      have hb:(x != op)=true:=by simpa using he
      clear h0 he;go_wp2
      go_round
      case rel=>exact⟨k+1,by omega,by go_num,op,rfl,by omega,by omega,aGs Hx.out (S.PScan.neg HT.out Ht.out Ht2.out)⟩
      case measure=>simp[intOf];omega
   ·rw[ht]at hlk;have Ht:=kH ht;clear ht hlk2;go_wp2;go_ret;exact⟨true,l,qv,q,rfl,H.out,Below.refl _ _, .inl ⟨rfl,rfl,rfl, .inl ⟨x,zAC Hx.out,Ht.out⟩⟩⟩
  ·have hT:=HT.out;rw[aB0 HA.out.len (by omega)]at hT;have HT2:=kH hT;clear hT HT
   by_cases h0:op=0
   ·subst h0;go_wp2;go_ret;refine⟨false,l,qv,q,rfl,H.out,Below.refl _ _, .inr (.inl ⟨rfl,rfl,rfl,?_⟩)⟩;rcases HT2.out with⟨_,h2⟩ |⟨h2,_⟩
    ·exact h2
    ·exact absurd rfl h2
   ·have hb0:(op != 0)=true:=by simpa using h0
    have hS:=HT2.out.resolve_left (fun h=>h0 h.1);have con:=aPa B0 T M l qv q op w H.out ⟨ho1,ho2⟩ hq;have Hcon:=kH con;clear con;have HS:=kH hS;clear hS;have H0:=kH h0;clear h0
    go_wp2_with fail
    refine Hcon.out.mono ?_;rintro e w' ⟨l',qv',q',rfl,htr,hbw,hpost⟩;have HP:=kH hpost;clear hpost;have Htr:=kH htr;clear htr;go_wp2;go_ret;rcases HP.out with⟨h2,_⟩ |⟨_,hl',hq'⟩
    ·rw[HS.out.2.2.1.1]at h2;cases h2
    ·subst hl';subst hq';refine⟨true,_,qv',_,aA5 ?_,Htr.out,hbw, .inr (.inr ⟨rfl,op,HS.out.2.1,HS.out.2.2.1,HS.out.2.2.2,rfl,rfl⟩)⟩;rw[aG4];have h4:=HS.out.2.2.1.2;have h5:=H0.out;simp only[S.also];rw[if_neg (by omega),h4];rfl
end
section
open Go.RowKit
theorem Tryz.infoSl:(prog.info? 37).map (fun i=>(i.zero,i.size,i.bytes))=some (some (.slice none 0 0),1,24):=by kernel_rfl
namespace S
theorem aQ4{cs l:List (List Int)}{i:Nat}{x:List Int}(h:bad cs l=(bad (cs ++ l.take i) (l.drop i)).map (· + i))(hx:l[i]? =some x)(hf:fol (cs ++ l.take i) x=true):
 bad cs l=(bad (cs ++ l.take (i+1)) (l.drop (i+1))).map (· +(i+1)):=by
 have hi:i<l.length:=(zAA.1 hx).1;have hd:l.drop i=x :: l.drop (i+1):=by
  rw[List.drop_eq_getElem_cons hi];rw[zAB hi]at hx;cases hx;rfl
 rw[h,hd,bad,if_pos hf,List.take_add_one,hx];simp only[Option.map_map,Option.toList_some,zBT]
 congr 1
 funext k
 simp;omega
theorem aQ5{cs l:List (List Int)}{i:Nat}{x:List Int}(h:bad cs l=(bad (cs ++ l.take i) (l.drop i)).map (· + i))(hx:l[i]? =some x)(hf:fol (cs ++ l.take i) x=false):bad cs l=some i:=by
 have hi:i<l.length:=(zAA.1 hx).1;have hd:l.drop i=x :: l.drop (i+1):=by
  rw[List.drop_eq_getElem_cons hi];rw[zAB hi]at hx;cases hx;rfl
 rw[h,hd,bad,if_neg (by simp[hf])];simp
theorem aUz{cs l:List (List Int)}{i:Nat}(h:bad cs l=(bad (cs ++ l.take i) (l.drop i)).map (· + i))(hi:l.length<=i):bad cs l=none:=by
 rw[h,List.drop_of_length_le hi];rfl
end S
def aHg{α:Type}(R:World->Value->α->Prop)(w:World)(us:List Value)(xs:List α):Prop:=us.length=xs.length/\∀(k:Nat) (x:α) (u:Value),xs[k]? =some x->us[k]? =some u->R w u x
theorem aHg.snoc{α:Type}{R:World->Value->α->Prop}{w:World}{us:List Value}{xs:List α}{u:Value}{x:α}(h:aHg R w us xs)(hr:R w u x):aHg R w (us ++ [u]) (xs ++ [x]):=by
 refine⟨by simp[h.1],fun k y v hy hv=>?_⟩
 by_cases hk:k<xs.length
 ·rw[zAE hk]at hy;rw[zAE (by rw[h.1];exact hk)]at hv;exact h.2 k y v hy hv
 ·rw[zAF (by omega)]at hy;rw[zAF (by rw[h.1];omega)]at hv;rw[h.1]at hv;have:k-xs.length=0:=by
   have:=(zAA.1 hy).1;simp at this;omega
  rw[this]at hy hv;simp at hy hv;rw[<-hy,<-hv];exact hr
theorem OwnAt.slElems9{α:Type}{R:World->Value->α->Prop}{w0 w:World}{e:TypeId}{A:Option Addr}{n c:Nat}{us:List Value}{xs:List α}(h:OwnAt w e 1 (.slice A n c) n us)(hM:MonoR R)(hb:Below w0.heap.size w0 w)(he:aHg R w0 us xs):SlAt R w A n xs:=
 h.slAt he.1.symm fun k x u hx hu=>hM _ _ _ _ hb (he.2 k x u hx hu)
def aQ6(w:World)(r:Int×Int)(e:Ending)(w':World):Prop:=e= .returned (.tuple #[.int .i64 r.1, .int .i64 r.2])/\Below w.heap.size w w'
theorem aPc{w:World}{e e':TypeId}{s s':Nat}{v v':Value}{n n':Nat}{xs xs':List Value}(h:OwnAt w e s v n xs)(h':OwnAt w e' s' v' n' xs')(hne:e≠e'):v.ownBlock=none\/v.ownBlock≠v'.ownBlock:=by
 rcases h.2 with⟨rfl,_⟩ |⟨g,off,cap,cur,rfl,hg,_⟩
 ·exact .inl rfl
 ·rcases h'.2 with⟨rfl,_⟩ |⟨g',off',cap',cur',rfl,hg',_⟩
  ·exact .inr (by simp[Value.ownBlock])
  ·refine .inr fun he=>?_
   have:g=g':=by simpa[Value.ownBlock]using he
   subst this;rw[hg]at hg';injection hg' with hg'
   injection hg' with _ ht
   exact hne ht
end
section
open Go.RowKit Go.Maps
def gl(lw:List (Int×List Int))(x:Int):List Int:=(AL.get lw x).getD []
theorem aF8(lw:List (Int×List Int))(x:Int)(v:List Int):gl (AL.put lw x v) x=v:=by simp[gl,AL.get_put_same]
theorem aFn(lw:List (Int×List Int)){x y:Int}(v:List Int)(h:y≠x):gl (AL.put lw x v) y=gl lw y:=by simp[gl,AL.get_put_other _ _ h]
def WithR(blk:Int->Option Nat)(w:World)(k:Int)(u:Value)(a:List Int):Prop:=u.ownBlock=blk k/\OwnAt w 3 1 u a.length (a.map (Value.int .i64))
structure BkAt9(w w0:World)(B0 Bk Mw:Nat)(cv:Value)(us:List Value)(cs:List (List Int))(lw:List (Int×List Int))(blk:Int->Option Nat)(N:Nat):Prop where
 st:w.heap[Bk]? =some (.cells #[cv, .map (some Mw)] 166 (0,0))
 own:OwnAt w 37 1 cv cs.length us
 rows:aHg (SlR (IntR .i64)) w0 us cs
 map_:MapAt prog 3 (Value.int .i64) (WithR blk) w Mw lw
 inj:∀k k' g,blk k=some g->blk k'=some g->k=k'
 bk:B0<=Bk
 bm:B0<=Mw
 bc:∀g,cv.ownBlock=some g->B0<=g
 bb:∀k g,blk k=some g->B0<=g/\g<w.heap.size
 small:∀x,(gl lw x).length<=N
def IdxTo(cs:List (List Int))(c:List Int)(k:Nat)(lw:List (Int×List Int)):Prop:=
 (∀(x:Int) (i:Nat) (d:List Int),cs[i]? =some d->x∈d->(i:Int)∈gl lw x)/\(∀x∈c.take k,(cs.length:Int)∈gl lw x)/\∀x i,i∈gl lw x->0<=i/\(i<cs.length\/(i=cs.length/\0<k))
theorem IdxTo.step{cs:List (List Int)}{c:List Int}{k:Nat}{lw:List (Int×List Int)}(h:IdxTo cs c k lw){x:Int}(hx:c[k]? =some x):IdxTo cs c (k+1) (AL.put lw x (gl lw x ++ [(cs.length:Int)])):=by
 obtain⟨h1,h2,h3⟩:=h;refine⟨fun y i d hd hy=>?_,fun y hy=>?_,fun y i hi=>?_⟩
 ·by_cases e:y=x
  ·subst e;rw[aF8];exact zAO _ (h1 y i d hd hy)
  ·rw[aFn _ _ e];exact h1 y i d hd hy
 ·rw[aBc hx]at hy
  by_cases e:y=x
  ·subst e;rw[aF8];simp
  ·rw[aFn _ _ e];rcases zBE.1 hy with hy | hy
   ·exact h2 y hy
   ·exact absurd (zBD.1 hy) e
 ·by_cases e:y=x
  ·subst e;rw[aF8]at hi;rcases zBE.1 hi with hi | hi
   ·have:=h3 y i hi;omega
   ·have:=zBD.1 hi;omega
  ·rw[aFn _ _ e]at hi;have:=h3 y i hi;omega
def Idx(cs:List (List Int))(lw:List (Int×List Int)):Prop:=
 (∀(x:Int) (i:Nat) (d:List Int),cs[i]? =some d->x∈d->(i:Int)∈gl lw x)/\∀x i,i∈gl lw x->0<=i/\i<cs.length
theorem Idx.to{cs:List (List Int)}{lw:List (Int×List Int)}(h:Idx cs lw)(c:List Int):IdxTo cs c 0 lw:=
 ⟨h.1,fun x hx=>by simp at hx,fun x i hi=>by have:=h.2 x i hi;omega⟩
theorem IdxTo.done{cs:List (List Int)}{c:List Int}{k:Nat}{lw:List (Int×List Int)}(h:IdxTo cs c k lw)(hk:c.length<=k):Idx (cs ++ [c]) lw:=by
 obtain⟨h1,h2,h3⟩:=h;refine⟨fun x i d hd hx=>?_,fun x i hi=>?_⟩
 ·by_cases hi:i<cs.length
  ·rw[zAE hi]at hd;exact h1 x i d hd hx
  ·have hlt:=(zAA.1 hd).1;simp at hlt;obtain rfl:i=cs.length:=by omega
   simp at hd;subst hd;exact h2 x (by rw[zAK hk];exact hx)
 ·have:=h3 x i hi;simp;omega
section
variable {w w' w0 : World} {B0 Bk Mw : Nat} {cv : Value} {us : List Value} {cs : List (List Int)} {lw : List (Int × List Int)} {blk : Int -> Option Nat} {N : Nat}
theorem BkAt9.c0(h:BkAt9 w w0 B0 Bk Mw cv us cs lw blk N):w.cell? ⟨Bk,0,none⟩=some cv:=by rw[cell_of_row w Bk 0 _ _ _ h.st];rfl
theorem BkAt9.c1(h:BkAt9 w w0 B0 Bk Mw cv us cs lw blk N):w.cell? ⟨Bk,1,none⟩=some (.map (some Mw)):=by rw[cell_of_row w Bk 1 _ _ _ h.st];rfl
theorem BkAt9.f0(h:BkAt9 w w0 B0 Bk Mw cv us cs lw blk N):w.frozen? ⟨Bk,0,none⟩=false:=by simp[World.frozen?,h.st]
theorem BkAt9.lt(h:BkAt9 w w0 B0 Bk Mw cv us cs lw blk N):Bk<w.heap.size:=(gA h.st).1
theorem BkAt9.below(h:BkAt9 w w0 B0 Bk Mw cv us cs lw blk N)(hb:Below w.heap.size w w'):BkAt9 w' w0 B0 Bk Mw cv us cs lw blk N:=
 ⟨(hb.block _ h.lt).trans h.st,h.own.below hb h.own.lt,h.rows,h.map_.keep (hb.block _ h.map_.lt) (fun k u a hu=>⟨hu.1,hu.2.below hb hu.2.lt⟩),h.inj,h.bk,h.bm,h.bc,fun k g hg=>⟨(h.bb k g hg).1,zAL (h.bb k g hg).2 hb.size⟩,h.small⟩
theorem BkAt9.look(h:BkAt9 w w0 B0 Bk Mw cv us cs lw blk N){x:Int}(hx: -4000<=x/\x<=4000):
 ∃u,(∀W:World,W.heap[Mw]? =w.heap[Mw]?->(Instr.lookup 164 (.map (some Mw)) (.int .i64 x) false).run prog W= .ok u W)/\
  OwnAt w 3 1 u (gl lw x).length ((gl lw x).map (Value.int .i64))/\(u.ownBlock=none\/u.ownBlock=blk x):=by
 obtain⟨u,h1,h2⟩:=h.map_.lookup_all (int_keyed underlying3) (aBe .i64) underlying164 (z:= .slice none 0 0) (fun _=>by kernel_rfl) (keyOf_int_mk (a:=x) underlying3 (WalkArith.wf_i64 (by omega)));refine⟨u,h1,?_⟩;rcases h2 with⟨h2,rfl⟩ |⟨a,h2,h3⟩
 ·unfold gl;rw[h2];exact⟨OwnAt.nil_ _ _ _, .inl rfl⟩
 ·unfold gl;rw[h2];exact⟨h3.2, .inr h3.1⟩
end
theorem aV7{wr w0 W w1:World}{B0 Bk Mw:Nat}{cv:Value}{us:List Value}{cs:List (List Int)}{lw:List (Int×List Int)}{blk:Int->Option Nat}{N:Nat}{x i:Int}{u v':Value}
 (h:BkAt9 wr w0 B0 Bk Mw cv us cs lw blk N) (hx: -4000<=x/\x<=4000) (hou:OwnAt wr 3 1 u (gl lw x).length ((gl lw x).map (Value.int .i64))) (hblk:u.ownBlock=none\/u.ownBlock=blk x) (hW:Below wr.heap.size wr W) (hWs:W.heap.size=wr.heap.size+1)
 (hown:OwnAt w1 3 1 v' ((gl lw x).length+1) ((gl lw x).map (Value.int .i64)++ [.int .i64 i])) (hgr:W.grownBy w1 u.ownBlock) (hat:v'.ownBlock=u.ownBlock\/v'.ownBlock=some W.heap.size):
 w1.cell? ⟨Bk,1,none⟩=some (.map (some Mw))/\∃w2,(Instr.mapUpdate 164 (.map (some Mw)) (.int .i64 x) v').run prog w1= .ok () w2/\
  (∃blk2,BkAt9 w2 w0 B0 Bk Mw cv us cs (AL.put lw x (gl lw x ++ [i])) blk2 (N+1))/\Below B0 wr w2:=by
 have hu:∀g,u.ownBlock=some g->g<wr.heap.size/\B0<=g:=fun g hg=>by
  rcases hblk with h0 | h0
  ·rw[h0]at hg;cases hg
  ·have:=h.bb x g (by rw[<-h0];exact hg);exact⟨this.2,this.1⟩
 have same1:∀g,g<wr.heap.size->u.ownBlock≠some g->w1.heap[g]? =wr.heap[g]? :=fun g hg hne=>(hgr.block g (by omega) (Ne.symm hne)).trans (hW.block g hg)
 have hMlt:=h.map_.lt;have hBlt:=h.lt;have huM:u.ownBlock≠some Mw:=aDk h.map_ hou;have huB:u.ownBlock≠some Bk:=aC4 hou h.st (by decide);have hB1:w1.heap[Bk]? =some (.cells #[cv, .map (some Mw)] 166 (0,0)):=(same1 Bk hBlt huB).trans h.st;refine⟨by rw[cell_of_row w1 Bk 1 _ _ _ hB1];rfl,?_⟩;have hmap1:MapAt prog 3 (Value.int .i64) (fun w k u a=>k=x\/WithR blk w k u a) w1 Mw lw:=by
  refine h.map_.keep (same1 Mw hMlt huM) fun k u2 a hr=>?_
  by_cases e:k=x
  ·exact .inl e
  ·refine .inr ⟨hr.1,hr.2.same fun g hg=>same1 g (hr.2.lt g hg) fun e2=>?_⟩;rcases hblk with h0 | h0
   ·rw[h0]at e2;cases e2
   ·exact e (h.inj k x g (by rw[<-hr.1];exact hg) (by rw[<-h0];exact e2))
 obtain⟨w2,hup,hgr2,hsz2,hmap2⟩:=hmap1.update (int_keyed underlying3) (aBe .i64) underlying164 (k:=x) (keyOf_int_mk (a:=x) underlying3 (WalkArith.wf_i64 (by omega))) v';have hs1:wr.heap.size+1<=w1.heap.size:=by have:=hgr.size;omega
 have same2:∀g,g<w1.heap.size->g≠Mw->w2.heap[g]? =w1.heap[g]? :=fun g hg hne=>hgr2.block g hg (fun e=>hne (zAH e))
 have hvlt:=hown.lt;have hvM:v'.ownBlock≠some Mw:=aDk hmap1 hown;have hbelow:Below B0 wr w2:=by
  have h1:Below B0 wr w1:=(hW.mono (Nat.le_of_lt (Nat.lt_of_le_of_lt h.bk hBlt))).grown hgr (by have:=h.bk;omega) (fun k hk=>(hu k hk).2);exact h1.grown hgr2 (by have:=h.bk;omega) (fun k hk=>by cases hk;exact h.bm)
 refine⟨w2,hup,⟨fun k=>if k=x then v'.ownBlock else blk k,?_⟩,hbelow⟩;have hvb:∀g,v'.ownBlock=some g->B0<=g:=fun g hg=>by
  rcases hat with h0 | h0
  ·exact(hu g (by rw[<-h0];exact hg)).2
  ·rw[h0]at hg;cases hg;have:=h.bk;omega
 refine⟨(same2 Bk (by omega) (fun e=>aHu h.map_ (by rw[<-e];exact h.st))).trans hB1,?_,h.rows,?_,?_,h.bk,h.bm,h.bc,?_,?_⟩
 ·refine h.own.same fun g hg=>?_
  have hlt:=h.own.lt g hg;have hgM:g≠Mw:=fun e=>aDk h.map_ h.own (by rw[<-e];exact hg)
  have hgu:u.ownBlock≠some g:=by
   rcases aPc hou h.own (by decide)with h0 | h0
   ·rw[h0];simp
   ·rw[<-hg];exact h0
  exact(same2 g (by omega) hgM).trans (same1 g hlt hgu)
 ·refine hmap2 _ _ (fun k u2 a hne hr=>?_) ?_
  ·have hr2:=hr.resolve_left hne;refine⟨by show _=(if k=x then _ else _);rw[if_neg hne];exact hr2.1,hr2.2.same fun g hg=>same2 g (hr2.2.lt g hg) fun e=>aDk hmap1 hr2.2 (by rw[<-e];exact hg)⟩
  ·refine⟨by show _=(if x=x then _ else _);rw[if_pos rfl],?_⟩;have h3:OwnAt w2 3 1 v' ((gl lw x).length+1) ((gl lw x).map (Value.int .i64)++ [.int .i64 i]):=hown.same fun g hg=>same2 g (hvlt g hg) fun e=>hvM (by rw[<-e];exact hg)
   simpa using h3
 ·have key:∀k' g,k'≠x->blk k'=some g->v'.ownBlock≠some g:=fun k' g hne hk' e=>by
   rcases hat with h0 | h0
   ·rcases hblk with h1 | h1
    ·rw[h0,h1]at e;cases e
    ·exact hne (h.inj k' x g hk' (by rw[<-h1,<-h0];exact e))
   ·rw[h0]at e;cases e;have:=(h.bb k' _ hk').2;omega
  intro k k' g h1 h2
  by_cases e:k=x <;> by_cases e':k'=x
  ·rw[e,e']
  ·rw[if_pos e]at h1;rw[if_neg e']at h2;exact absurd h1 (key k' g e' h2)
  ·rw[if_neg e]at h1;rw[if_pos e']at h2;exact absurd h2 (key k g e h1)
  ·rw[if_neg e]at h1;rw[if_neg e']at h2;exact h.inj k k' g h1 h2
 ·intro k g hg
  by_cases e:k=x
  ·rw[if_pos e]at hg;exact⟨hvb g hg,by rw[hsz2];exact hvlt g hg⟩
  ·rw[if_neg e]at hg;have:=h.bb k g hg;exact⟨this.1,by rw[hsz2];omega⟩
 ·intro y
  by_cases e:y=x
  ·subst e;rw[aF8];have:=h.small y;simp;omega
  ·rw[aFn _ _ e];have:=h.small y;omega
theorem aV8{wr w0 w1:World}{B0 Bk Mw:Nat}{cv v':Value}{us:List Value}{cs:List (List Int)}{lw:List (Int×List Int)}{blk:Int->Option Nat}{N:Nat}{u:Value}{c:List Int}{E:TypeId}
 (h:BkAt9 wr w0 B0 Bk Mw cv us cs lw blk N) (hrow:SlR (IntR .i64) w0 u c) (hown:OwnAt w1 37 1 v' (cs.length+1) (us ++ [u])) (hgr:(wr.alloc (.cells #[u] E)).grownBy w1 cv.ownBlock) (hat:v'.ownBlock=cv.ownBlock\/v'.ownBlock=some (wr.heap.size+1)):
 w1.frozen? ⟨Bk,0,none⟩=false/\w1.cell? ⟨Bk,0,none⟩=some cv/\BkAt9 (w1.setCell ⟨Bk,0,none⟩ v') w0 B0 Bk Mw v' (us ++ [u]) (cs ++ [c]) lw blk N/\Below B0 wr (w1.setCell ⟨Bk,0,none⟩ v'):=by
 have same1:∀g,g<wr.heap.size->cv.ownBlock≠some g->w1.heap[g]? =wr.heap[g]? :=fun g hg hne=>(hgr.block g (by simp;omega) (Ne.symm hne)).trans (Below.heap_alloc wr _ g hg)
 have hBlt:=h.lt;have hMlt:=h.map_.lt;have hcM:cv.ownBlock≠some Mw:=aDk h.map_ h.own;have hcB:cv.ownBlock≠some Bk:=aC4 h.own h.st (by decide);have hB1:w1.heap[Bk]? =some (.cells #[cv, .map (some Mw)] 166 (0,0)):=(same1 Bk hBlt hcB).trans h.st;have hBM:Bk≠Mw:=fun e=>aHu h.map_ (by rw[<-e];exact h.st)
 have hs1:wr.heap.size+1<=w1.heap.size:=by have:=hgr.size;simpa using this
 have hbb:=aCw (w0:=wr) (B:=B0) (Below.refl _ _) (by have:=h.bk;omega) h.bc hgr hat;refine⟨by simp[World.frozen?,hB1],by rw[cell_of_row w1 Bk 0 _ _ _ hB1];rfl,?_,hbb.1.setCell (by exact h.bk) _⟩;have same2:∀g,g≠Bk->(w1.setCell ⟨Bk,0,none⟩ v').heap[g]? =w1.heap[g]? :=fun g hne=>Below.heap_setCell w1 _ _ g hne
 have hvB:v'.ownBlock≠some Bk:=aC4 hown hB1 (by decide);refine⟨by rw[heap_setCell_same w1 Bk 0 _ _ _ hB1];rfl,?_,h.rows.snoc hrow,?_,h.inj,h.bk,h.bm,hbb.2,?_,h.small⟩
 ·have h3:=hown.setCell (p:=⟨Bk,0,none⟩) hvB v';simpa using h3
 ·refine h.map_.keep ((same2 Mw hBM.symm).trans (same1 Mw hMlt hcM)) fun k u2 a hr=>⟨hr.1,hr.2.same fun g hg=>?_⟩
  have hgB:g≠Bk:=fun e=>aC4 hr.2 h.st (by decide) (by rw[<-e];exact hg)
  refine(same2 g hgB).trans (same1 g (hr.2.lt g hg) ?_);rcases aPc hr.2 h.own (by decide)with h0 | h0
  ·rw[h0]at hg;cases hg
  ·rw[<-hg];exact Ne.symm h0
 ·intro k g hg;have:=h.bb k g hg;exact⟨this.1,by simp[World.setCell];omega⟩
def bEo(w w0:World)(B0 Bk Mw:Nat)(us:List Value)(cs:List (List Int))(N:Nat)(c:List Int)(u:Value)(e:Ending)(w':World):Prop:=
 ∃cv' lw' blk',e= .returned (.tuple #[])/\BkAt9 w' w0 B0 Bk Mw cv' (us ++ [u]) (cs ++ [c]) lw' blk' (N+c.length)/\Idx (cs ++ [c]) lw'/\Below B0 w w'
theorem aPd(w0:World)(B0 Bk Mw:Nat)(cv:Value)(us:List Value)(cs:List (List Int))(lw:List (Int×List Int))(blk:Int->Option Nat)(N n:Nat)(A:Option Addr)(m d:Nat)(c:List Int)(w:World)
 (h:BkAt9 w w0 B0 Bk Mw cv us cs lw blk N) (hidx:Idx cs lw) (hA:SlAt (IntR .i64) w A m c) (hA0:SlAt (IntR .i64) w0 A m c) (hAB:w0.heap.size<=B0) (hc:S.isClause n c=true) (hn:n<=4000) (hN:N+c.length<=100000000) (hcs:cs.length<=100000):
 Calls prog 108 #[.pointer (some ⟨Bk,0,none⟩), .slice A m d] w (bEo w w0 B0 Bk Mw us cs N c (.slice A m d)):=by
 have hl:=hA.le;have hmc:=hA.len;have HA:=kH hA;clear hA;have HA0:=kH hA0;clear hA0;have H:=kH h;clear h;have HC:=kH hc;clear hc;have HI:=kH hidx;clear hidx;have HAB:=kH hAB;clear hAB;have Hmc:=kH hmc;clear hmc
 go_enter func108,ntmps108
 go_wp2
 go_loopg [8] (m+1) (fun g i wr=>∃(k:Nat) (lw1:List (Int×List Int)) (blk1:Int->Option Nat),k<=m/\i= .int .i64 (k:Int)/\g+k=m+1/\BkAt9 wr w0 B0 Bk Mw cv us cs lw1 blk1 (N+k)/\IdxTo cs c k lw1/\Below B0 w wr)
 case atStart=>exact⟨0,lw,blk,zBL _,rfl,rfl,H.out,HI.out.to c,Below.refl _ _⟩
 case round=>
  obtain⟨k,lw1,blk1,hk,rfl,hgk,hbk,hidx,hbw⟩:=hrel;have Hgk:=kH hgk;clear hgk;have Hbk:=kH hbk;clear hbk;have HI1:=kH hidx;clear hidx
  by_cases hlt:k<m
  ·have hslr:SlAt (IntR .i64) wr A m c:=by
    refine⟨HA.out.1,HA.out.2.1,fun j y hy=>?_⟩;obtain⟨b,off,u,e1,e2,e3,e4⟩:=HA.out.2.2 j y hy;have hb:b<B0:=by
     obtain⟨b2,off2,u2,f1,f2,_⟩:=HA0.out.2.2 j y hy;rw[e1]at f1;cases f1;have:=HAB.out;omega
    exact⟨b,off,u,e1,zAL e2 hbw.size,(hbw.cell (p:=⟨b,off+j,none⟩) hb).trans e3,e4⟩
   obtain⟨x,b,off,u,hx,rfl,hbsz,h1,rfl⟩:=hslr.at_ hlt;clear hslr;obtain⟨hx1,hx2,hx3⟩:=aF2 ⟨by omega,by omega⟩ (aHf HC.out hx);have Hx:=kH hx;clear hx hx3;obtain⟨u,hlook,hown,hblk⟩:=Hbk.out.look (x:=x) (by omega);have hc0:=Hbk.out.c0;have hc1:=Hbk.out.c1;obtain⟨AC,cc,hcv⟩:=Hbk.out.own.form;have hlenN:=Hbk.out.small x;have hlk1:=hlook wr.drew rfl;have hlk2:=hlook ((wr.alloc (.cells #[.int .i64 (cs.length:Int)] 3)).drew) (Below.heap_alloc wr _ Mw Hbk.out.map_.lt);obtain⟨AU,cu,hu⟩:=hown.form;obtain⟨L,hL⟩:∃L,L=(gl lw1 x).length:=⟨_,rfl⟩;rw[<-hL]at hown hu hlenN;subst hu;subst hcv;have Hlook:=kH hlook;clear hlook;have Hown:=kH hown;clear hown;have Hblk:=kH hblk;clear hblk;have HL:=kH hL;clear hL;have hW:Below wr.heap.size wr ((wr.alloc (.cells #[.int .i64 (cs.length:Int)] 3)).drew):=(al0).drew;have HW:=kH hW;clear hW;have hL1:L+1<=1000000000:=by have:=Hmc.out;omega
   have hc0':(wr.alloc (.cells #[.int .i64 (cs.length:Int)] 3)).cell? ⟨Bk,0,none⟩=_:=(HW.out.cell (p:=⟨Bk,0,none⟩) Hbk.out.lt).trans hc0;have hc1':(wr.alloc (.cells #[.int .i64 (cs.length:Int)] 3)).cell? ⟨Bk,1,none⟩=_:=(HW.out.cell (p:=⟨Bk,1,none⟩) Hbk.out.lt).trans hc1
   go_wp2_with fail
   go_region_law (first
    | (refine aBp _ rfl (.tmp 22) (.tmp 28) 37 rfl 3 (.int .i64 0) 1 8 underlying37 Tryz.infoInt rfl (by omega) (.slice AU L cu) L _ rfl (Hown.out.same (fun g hg => (HW.out.block g (Hown.out.lt g hg)))) (some ⟨wr.heap.size, 0, none⟩) 1 1 [.int .i64 (cs.length : Int)] rfl rfl (fun j v hv => ⟨_, rfl, cell_one_new wr _ _ j v hv⟩) (by simp [Value.oneCell']) hL1 (by omega) ?_
       intro v' w1 hown1 hgr hat;have hst:=aV7 Hbk.out ⟨hx1,hx2⟩ (by rw[<-HL.out];exact Hown.out) Hblk.out HW.out (by simp) (by rw[<-HL.out];exact hown1) hgr hat;obtain⟨hc11,w2,hup,hbk2,hbw2⟩:=hst;have Hbk2:=kH hbk2;have Hbw2:=kH hbw2;clear hbk2 hbw2 hown1 hgr hat hlk1 hlk2 hc0 hc1 hc0' hc1'))
   all_goals
    clear hc11 hup;go_wp2
    go_roundg (gk-1)
    case measure=>have:=Hgk.out;omega
    case rel=>
     have:=Hgk.out;obtain⟨blk2,h2⟩:=Hbk2.out;exact⟨k+1,_,blk2,by omega,by go_num,by omega,h2,HI1.out.step Hx.out,hbw.trans Hbw2.out⟩
  ·obtain rfl:k=m:=by omega
   have hc0:=Hbk.out.c0;have hf0:=Hbk.out.f0;obtain⟨AC,cc,hcv⟩:=Hbk.out.own.form;subst hcv;have hrow:SlR (IntR .i64) w0 (.slice A k d) c:=SlR.mk_ HA0.out;have Hrow:=kH hrow;clear hrow
   go_wp2_with (at_builtin;refine aAk _ rfl (.tmp 35) (.tmp 37) 25 rfl 37 (.slice none 0 0) 24 underlying25 Tryz.infoSl rfl _ cs.length _ rfl Hbk.out.own (.slice A k d) rfl 37 rfl (by omega) (by omega) ?_;intro v' w1 hown1 hgr hat;obtain⟨A2,c2,rfl⟩:=hown1.form;have Hst:=kH (aV8 Hbk.out Hrow.out hown1 hgr hat);clear hown1 hgr hat;have hf1:=Hst.out.1;have hcl1:=Hst.out.2.1)
   refine bodyPost_end (results_none rfl _ _ _) rfl ?_;refine⟨.slice A2 (cs.length+1) c2,lw1,blk1,rfl,?_,HI1.out.done (by rw[Hmc.out];exact zBJ _),hbw.trans Hst.out.2.2.2⟩;rw[Hmc.out];exact Hst.out.2.2.1
namespace S
theorem PLook.inv{cs:List (List Int)}{given:List Int}{n:Nat}{l l':List (Int×Bool)}{q q' c:List Int}{b:Bool}(hi:PInv cs given n (trl l))(hc:c∈cs)(hcl:isClause n c=true)(h:PLook l q c b l' q'):
 (b=false/\aA2 cs given)\/(b=true/\PInv cs given n (trl l')/\Fine (trl l') c/\(∀d,Waits (trl l) q d->Waits (trl l') q' d)/\(∀x,trl l x=true->trl l' x=true)/\q'.length+open_ n (trl l')<=q.length+open_ n (trl l)):=by
 rcases h with⟨rfl,rfl,rfl,hf⟩ |⟨rfl,rfl,rfl,hall⟩ |⟨rfl,y,hy,ho,hother,rfl,rfl⟩
 ·exact .inr ⟨rfl,hi,hf,fun _ h=>h,fun _ h=>h,zBJ _⟩
 ·exact .inl ⟨rfl,aDj hc fun m hm=>hi.sound _ (hall m hm).2⟩
 ·have hyl:=zAD.1 hcl y hy;have hd:Der cs given y:= .unit_ hc hy fun m hm hne=>hi.sound _ (hother m hm hne).2
  rw[aG4];refine .inr ⟨rfl,hi.also hyl hd ho.2, .inl ⟨y,hy,by simp[also]⟩,fun d hd=>hd.also ho.2,fun x hx=>by simp[also,hx],?_⟩;have:=aO9 hyl ho.1;simp;omega
structure Known(cs:List (List Int))(given:List Int)(n:Nat)(k:Nat)(l:List (Int×Bool))(q:List Int):Prop where
 inv:PInv cs given n (trl l)
 giv:∀x∈given.take k,trl l x=true
 mass:q.length+open_ n (trl l)<=2*n
 lits_:∀y∈q,isLit n y=true
theorem aTe(n:Nat):(lits n).length=2*n:=by
 unfold lits;induction n with
 | zero=>rfl
 | succ n ih=>rw[List.range_succ,List.flatMap_append,zAX,ih];simp;omega
theorem aTf(cs:List (List Int))(given:List Int)(n:Nat):Known cs given n 0 [] []:=
 ⟨⟨fun l h=>by simp[trl,AL.get]at h,fun l h=>by simp[trl,AL.get]at h,fun l h=>by simp[trl,AL.get]at h⟩,fun x hx=>by simp at hx,by
  unfold open_;have:=List.countP_le_length (l:=lits n) (p:=fun l=>!trl [] l);rw[aTe]at this;simpa using this,fun y hy=>by simp at hy⟩
theorem Known.take{cs:List (List Int)}{given:List Int}{n k:Nat}{l l':List (Int×Bool)}{q q':List Int}(h:Known cs given n k l q)(hg:isClause n given=true){x:Int}(hx:given[k]? =some x)
 (hp:(trl l x=true/\l'=l/\q'=q)\/(trl l x=false/\l'=AL.put l x true/\q'=q ++ [x])):
 (trl l' (-x)=true/\aA2 cs given)\/(trl l' (-x)=false/\Known cs given n (k+1) l' q'):=by
 have hxm:=zAC hx;have hxl:=zAD.1 hg x hxm;have htk:∀y,y∈given.take (k+1)->y∈given.take k\/y=x:=fun y hy=>by
  rw[List.take_add_one,hx]at hy;rcases zBE.1 hy with hy | hy
  ·exact .inl hy
  ·simp at hy;exact .inr hy
 rcases hp with⟨ht,rfl,rfl⟩ |⟨ht,rfl,rfl⟩
 ·refine .inr ⟨h.inv.con x ht,h.inv,fun y hy=>?_,h.mass,h.lits_⟩;rcases htk y hy with hy | rfl
  ·exact h.giv y hy
  ·exact ht
 ·have hql:∀y∈q ++ [x],isLit n y=true:=fun y hy=>by
   rcases zBE.1 hy with hy | hy
   ·exact h.lits_ y hy
   ·rw[zBD.1 hy];exact hxl
  have hne:=aAc hxl;have e1:trl (AL.put l x true) (-x)=trl l (-x):=by rw[aG4];simp only[also];rw[if_neg (by omega)]
  rw[e1];cases hn:trl l (-x)
  ·refine .inr ⟨rfl,?_,fun y hy=>?_,?_,hql⟩
   ·rw[aG4];exact h.inv.also hxl (.given_ hxm) hn
   ·rw[aG4];rcases htk y hy with hy | rfl
    ·simp[also,h.giv y hy]
    ·simp[also]
   ·rw[aG4];have:=aO9 hxl ht;have:=h.mass;simp;omega
  ·exact .inl ⟨rfl,aJ3 (.given_ hxm) (h.inv.sound _ hn)⟩
theorem Known.look{cs:List (List Int)}{given:List Int}{n k:Nat}{l l':List (Int×Bool)}{q q' c:List Int}{b:Bool}(h:Known cs given n k l q)(hc:c∈cs)(hcl:isClause n c=true)(hp:PLook l q c b l' q'):
 (b=false/\aA2 cs given)\/(b=true/\Known cs given n k l' q'/\Fine (trl l') c/\(∀d,Waits (trl l) q d->Waits (trl l') q' d)/\q'.length+open_ n (trl l')<=q.length+open_ n (trl l)):=by
 rcases hp.inv h.inv hc hcl with h1 |⟨h1,h2,h3,h4,h5,h6⟩
 ·exact .inl h1
 ·refine .inr ⟨h1,⟨h2,fun x hx=>h5 x (h.giv x hx),zBK h6 h.mass,fun y hy=>?_⟩,h3,h4,h6⟩;rcases hp with⟨_,_,rfl,_⟩ |⟨_,_,rfl,_⟩ |⟨_,z,hz,_,_,_,rfl⟩
  ·exact h.lits_ y hy
  ·exact h.lits_ y hy
  ·rcases zBE.1 hy with hy | hy
   ·exact h.lits_ y hy
   ·rw[zBD.1 hy];exact zAD.1 hcl z hz
theorem Waits.pop{tr:Int->Bool}{x:Int}{r c:List Int}(h:Waits tr (x :: r) c):Waits tr r c\/ -x∈c:=by
 rcases h with h |⟨m,hm,hq⟩
 ·exact .inl (.inl h)
 ·rcases zBF.1 hq with e | e
  ·exact .inr (by rw[<-e,Int.neg_neg];exact hm)
  ·exact .inl (.inr ⟨m,hm,e⟩)
end S
def tot(cs:List (List Int)):Nat:=(cs.map List.length).sum
theorem aJn{cs:List (List Int)}{k:Nat}{x:List Int}(h:cs[k]? =some x):tot (cs.take (k+1))=tot (cs.take k)+x.length:=by
 unfold tot;rw[aBc h];simp
theorem aLo(cs:List (List Int))(k:Nat):tot (cs.take k)<=tot cs:=by
 unfold tot
 conv=>rhs;rw[<-List.take_append_drop k cs]
 rw[zBS,List.sum_append];omega
theorem aJo{cs:List (List Int)}{x:List Int}(h:x∈cs):x.length<=tot cs:=by
 unfold tot;induction cs with
 | nil=>cases h
 | cons y r ih=>
  rcases zBF.1 h with rfl | h
  ·simp
  ·have:=ih h;simp;omega
def bAw(w:World)(cs:List (List Int))(e:Ending)(w':World):Prop:=
 ∃Bk Mw cv us lw blk,e= .returned (.pointer (some ⟨Bk,0,none⟩))/\BkAt9 w' w w.heap.size Bk Mw cv us cs lw blk (tot cs)/\Idx cs lw/\Below w.heap.size w w'
theorem aFo{P:Program}{t k e:TypeId}(ht:P.underlying t=some (.map k e))(w:World):(Instr.makeMap t none).run P w= .ok (.map (some w.heap.size)) (w.alloc (.map #[] 0)):=by
 simp[Instr.makeMap]
 try rfl
theorem BkAt9.start(w:World):BkAt9 ((w.alloc (.map #[] 0)).alloc (.cells #[.slice none 0 0, .map (some w.heap.size)] 166)) w w.heap.size (w.heap.size+1) w.heap.size (.slice none 0 0) [] [] [] (fun _=>none) 0:=by
 refine⟨?_,OwnAt.nil_ _ _ _,⟨rfl,fun k x u hx=>by simp at hx⟩,?_,fun _ _ _ h=>(by cases h),by omega,by omega,fun g hg=>(by simp[Value.ownBlock]at hg),fun _ _ h=>(by cases h),fun x=>by simp[gl,AL.get]⟩
 ·have h:=Go.heap_alloc_new (w.alloc (.map #[] 0)) (.cells #[.slice none 0 0, .map (some w.heap.size)] 166);simpa using h
 ·exact(MapAt.made (R:=fun _ _ _ _=>False) w).keep (Below.heap_alloc _ _ _ (by simp)) (fun _ _ _ h=>h.elim)
theorem bAx(n:Nat)(A:Option Addr)(m d:Nat)(cs:List (List Int))(w:World)(hA:SlAt (SlR (IntR .i64)) w A m cs)(hc:cs.all (S.isClause n)=true)(hn:n<=4000)(ht:tot cs<=20000000)(hm:m<=100000):
 Calls prog 106 #[.slice A m d] w (bAw w cs):=by
 have HA:=kH hA;clear hA;have HC:=kH hc;clear hc;have Ht:=kH ht;clear ht;have hmk:=fun W=>aFo (P:=prog) underlying164 W
 have HS:=kH (BkAt9.start w);have HB:=kH (show Below w.heap.size w ((w.alloc (.map #[] 0)).alloc (.cells #[.slice none 0 0, .map (some w.heap.size)] 166))from(al0).alloc (by simp) _)
 go_enter func106,ntmps106
 go_wp2;clear hmk
 go_loopg [11] (m+1) (fun g i wr=>∃(k:Nat) (cv:Value) (us:List Value) (lw:List (Int×List Int)) (blk:Int->Option Nat),k<=m/\i= .int .i64 (k:Int)/\g+k=m+1/\BkAt9 wr w w.heap.size (w.heap.size+1) w.heap.size cv us (cs.take k) lw blk (tot (cs.take k))/\Idx (cs.take k) lw/\Below w.heap.size w wr)
 case atStart=>exact⟨0,_,_,_,_,zBL _,rfl,rfl,HS.out,⟨fun x i c hc=>by simp at hc,fun x i hi=>by simp[gl,AL.get]at hi⟩,HB.out⟩
 case round=>
  obtain⟨k,cv,us,lw,blk,hk,rfl,hgk,hbk,hidx,hbw⟩:=hrel;have Hgk:=kH hgk;clear hgk;have Hbk:=kH hbk;clear hbk;have HI:=kH hidx;clear hidx
  by_cases hlt:k<m
  ·obtain⟨x,b,off,u,hx,hAA,_,h1,A1,c1,rfl,s1⟩:=HA.out.at_ hlt;have hcw:=(hbw.cell (p:=⟨b,off+k,none⟩) (World.block_lt_of_cell? _ _ h1)).trans h1;subst hAA;have hxm:=zAC hx;have hts:=aJn hx;have htl:=aLo cs (k+1);have con:=aPd w w.heap.size (w.heap.size+1) w.heap.size cv us (cs.take k) lw blk (tot (cs.take k)) n A1 x.length c1 x wr Hbk.out HI.out (s1.below (aAd _) hbw) s1 (zBJ _) (zAD.1 HC.out x hxm) hn (by have:=Ht.out;omega) (by have:=List.length_take_le k cs;omega);have Hcon:=kH con;clear con s1 hts htl hxm;have Hx:=kH hx;clear hx h1
   go_wp2_with fail
   refine Hcon.out.mono ?_;rintro e w1 ⟨cv',lw',blk',rfl,hbk1,hidx1,hb1⟩;have Hbk1:=kH hbk1;clear hbk1;have HI1:=kH hidx1;clear hidx1;go_wp2
   go_roundg (gk-1)
   case measure=>have:=Hgk.out;omega
   case rel=>
    have:=Hgk.out;refine⟨k+1,cv',us ++ [.slice A1 x.length c1],lw',blk',by omega,by go_num,by omega,?_,by rw[aBc Hx.out];exact HI1.out,hbw.trans hb1⟩;rw[aJn Hx.out,aBc Hx.out];exact Hbk1.out
  ·go_wp2;go_ret;have hbk:=Hbk.out;have hi:=HI.out;rw[aB0 HA.out.len (by omega)]at hbk hi;exact⟨_,_,cv,us,lw,blk,rfl,hbk,hi,hbw⟩
theorem aTg(n:Nat)(A:Option Addr)(m d:Nat)(c:List Int)(w:World)(hA:SlAt (IntR .i64) w A m c)(hc:S.isClause n c=true)(hn:n<=4000)(hm:m<=100000000):
 Calls prog 140 #[.slice A m d] w fun e w'=>∃A' d',e= .returned (.slice A' m d')/\SlAt (IntR .i64) w' A' m (S.negs c)/\Below w.heap.size w w':=by
 have HA:=kH hA;clear hA;have HC:=kH hc;clear hc
 go_enter func140,ntmps140
 go_wp2
 go_loopg [3,8] (m+1) (fun g v i wr=>∃k:Nat,k<=m/\i= .int .i64 k/\g+k=m+1/\OwnAt wr 3 1 v k ((S.negs (c.take k)).map (Value.int .i64))/\Below w.heap.size w wr/\(∀g,v.ownBlock=some g->w.heap.size<=g))
 case atStart=>exact⟨0,zBL _,rfl,rfl,OwnAt.nil_ _ _ _,Below.refl _ _,fun g hg=>by simp[Value.ownBlock]at hg⟩
 case round=>
  obtain⟨k,hk,rfl,hgk,hown,hbw,hob⟩:=hrel;have Hgk:=kH hgk;clear hgk;have Hown:=kH hown;clear hown;have Hob:=kH hob;clear hob
  by_cases hlt:k<m
  ·obtain⟨x,b,off,u,hx,rfl,_,h1,rfl⟩:=(HA.out.below (aAd _) hbw).at_ hlt;obtain⟨hx1,hx2,hx3⟩:=aF2 ⟨by omega,by omega⟩ (aHf HC.out hx);have Hx:=kH hx;clear hx hx3
   go_wp2_with (at_builtin;refine aAk _ rfl (.tmp 12) (.tmp 15) 37 rfl 3 (.int .i64 0) 8 underlying37 Tryz.infoInt rfl _ k _ rfl Hown.out (.int .i64 (-x)) rfl 3 rfl (by omega) (by omega) ?_;intro v' w1 hown' hgr hat)
   have Hown':=kH hown'.appended;clear hown';obtain⟨hb1,hv1⟩:=aCw hbw hbw.size Hob.out hgr hat;have Hv1:=kH hv1;clear hv1 hgr hat;go_wp2
   go_roundg (gk-1)
   case measure=>have:=Hgk.out;omega
   case rel=>
    have:=Hgk.out;refine⟨k+1,by omega,by go_num,by omega,?_,hb1,Hv1.out⟩;have h3:=Hown'.out;rw[aBc Hx.out];simpa[S.negs]using h3
  ·have hown:=Hown.out;rw[aB0 HA.out.len (by omega)]at hown;obtain⟨A2,c2,rfl⟩:=hown.form;obtain rfl:k=m:=by omega
   have Hown2:=kH hown;clear hown;go_wp2;go_ret;exact⟨A2,c2,rfl,Hown2.out.slInts,hbw⟩
theorem aLk{P:Program}(w:World){ops:Array Oper}{rest:List Oper}{o:Oper}{a:Act}{Q:Exit->Act->World->Prop}(hgd:o.guard=none)(x lo:Operand)(t:TypeId)(hop:o.op=Op.slice t x (some lo) none none)
 (e:TypeId) (z:Value) (bytes:Nat) (ht:P.underlying t=some (.slice e)) (hinfo:(P.info? e).map (fun i=>(i.zero,i.size,i.bytes))=some (some z,1,bytes))
 (v:Value) (n:Nat) (xs:List Value) (hx:a.eval x=v) (hown:OwnAt w e 1 v n xs) (kl:IntKind) (k:Nat) (C:Int) (hlo:a.eval lo= .int kl C) (hC:C=(k:Int)) (hk:k<=n) (hn:0<n)
 (hK:∀v',OwnAt w e 1 v' (n-k) (xs.drop k)->v'.ownBlock=v.ownBlock->wpList P ops Q rest (a.put o.dst v') w):wpList P ops Q (o :: rest) a w:=by
 obtain⟨i,hi,hz,hsz,hby⟩:=info_parts hinfo;refine wpList_plain hgd fun K' hK'=>?_
 rcases hown.2 with⟨rfl,h0⟩ |⟨g,off,cap,cur,rfl,hg,hnc,hcm,hcs,hcur⟩
 ·omega
 subst hC;have hrun:(Instr.sliceAt t (.slice (some ⟨g,off,none⟩) n cap) (some (.int kl (k:Int))) none none).run P w= .ok (.slice (some (if cap=k then⟨g,off,none⟩else⟨g,off+k,none⟩)) (n-k) (cap-k)) w:=by
  simp[Instr.sliceAt,Instr.slice,Instr.sliceBounds,Instr.sliceBound,run_underlying ht,asIntOf,sizeOf,typeInfo,hi,hsz,hk]
  by_cases hck:cap=k
  ·simp[hck]
  ·simp[hck,aBl]
 unfold Oper.wp;simp[execOp,hop,hx,hlo,hrun,Result.andThen];refine hK' _ _ (hK _ ⟨by simp[hown.1], .inr ?_⟩ ?_)
 ·by_cases hck:cap=k
  ·rw[if_pos hck];exact⟨g,off,cap-k,cur,rfl,hg,by omega,by omega,by omega,fun j u hu=>by
    rw[List.getElem?_drop]at hu;have:=(zAA.1 hu).1;have:=hown.1;omega⟩
  ·rw[if_neg hck];exact⟨g,off+k,cap-k,cur,rfl,hg,by omega,by omega,by omega,fun j u hu=>by
    rw[List.getElem?_drop]at hu;rw[Nat.add_assoc];exact hcur _ u hu⟩
 ·split <;> rfl
end
section
open Go.RowKit
theorem bAy(n x:Int)(B:Nat)(w:World)(hn:0<=n)(hm:n<=4000)(hc:w.cell? ⟨B,0,none⟩=some (.int .i64 n)):
 Calls prog 104 #[.int .i64 x, .pointer (some ⟨B,0,none⟩)] w fun e w'=>e= .returned (.bool (!S.isLit n x))/\w=w':=by
 have Hcon:=kH (aQe n x w hn hm)
 go_enter func104,ntmps104
 go_wp2_with fail
 refine Hcon.out.mono ?_;rintro e w' ⟨rfl,rfl⟩;go_wp2;go_ret;exact⟨rfl,rfl⟩
theorem bAz(p:Int->Bool)(B:Nat)(A:Option Addr)(m c:Nat)(xs:List Int)(w:World)(hA:SlAt (IntR .i64) w A m xs)
 (hp:∀x∈xs,∀W,Dr w W->Calls prog 104 #[.int .i64 x, .pointer (some ⟨B,0,none⟩)] W fun e w'=>e= .returned (.bool (p x))/\Dr W w'):
 Calls prog 130 #[.slice A m c, .func (.func 104) #[] #[.pointer (some ⟨B,0,none⟩)]] w fun e w'=>∃r:Int,e= .returned (.int .i64 r)/\decide (0<=r)=xs.any p/\-1<=r/\Dr w w':=by
 have hl:=hA.le;have HA:=kH hA;clear hA;have HP:=kH hp;clear hp
 go_enter func130,ntmps130
 go_wp2
 go_loopw [8] (fun i wr=>∃k:Nat,k<=m/\i= .int .i64 k/\Dr w wr/\Hid ((xs.take k).any p=false)) (fun i _=>m- (intOf i).toNat)
 case atStart=>exact⟨0,zBL _,rfl,Dr.refl _,rfl⟩
 case round=>
  obtain⟨k,hk,rfl,hdr,HT⟩:=hrel
  by_cases hlt:k<m
  ·obtain⟨x,b,off,u,hx,rfl,_,h1,rfl⟩:=(HA.out.dr (aAd _) hdr).at_ hlt;have con:=HP.out x (zAC hx) wr hdr;have Hx:=kH hx;clear hx;cases hpx:p x
   ·rw[hpx]at con;have Hcon:=kH con;clear con;have Hpx:=kH hpx;clear hpx
    go_wp2_with fail
    refine Hcon.out.mono ?_;rintro e w' ⟨rfl,hd2⟩;go_wp2;go_roundw
    case rel=>exact⟨k+1,by omega,by go_num,hdr.trans hd2,aH9 Hx.out HT.out Hpx.out⟩
    case measure=>simp[intOf];omega
   ·rw[hpx]at con;have Hcon:=kH con;clear con;have Hpx:=kH hpx;clear hpx
    go_wp2_with fail
    refine Hcon.out.mono ?_;rintro e w' ⟨rfl,hd2⟩;go_wp2;go_ret;exact⟨_,rfl,by rw[aJ4 Hx.out Hpx.out];simp,by omega,hdr.trans hd2⟩
  ·go_wp2;go_ret;have h3:=HT.out;rw[aB0 HA.out.len (by omega)]at h3;exact⟨_,rfl,by rw[h3];rfl,by omega,hdr⟩
theorem bA0(p:Int->Bool)(B:Nat)(A:Option Addr)(m c:Nat)(xs:List Int)(w:World)(hA:SlAt (IntR .i64) w A m xs)
 (hp:∀x∈xs,∀W,Dr w W->Calls prog 104 #[.int .i64 x, .pointer (some ⟨B,0,none⟩)] W fun e w'=>e= .returned (.bool (p x))/\Dr W w'):
 Calls prog 87 #[.slice A m c, .func (.func 104) #[] #[.pointer (some ⟨B,0,none⟩)]] w fun e w'=>e= .returned (.bool (xs.any p))/\Dr w w':=by
 have Hcon:=kH (bAz p B A m c xs w hA hp);clear hA hp
 go_enter func87,ntmps87
 go_wp2_with fail
 refine Hcon.out.mono ?_;rintro e w' ⟨r,rfl,hr,hr1,hd⟩;have Hr:=kH hr;clear hr;go_wp2;go_ret;exact⟨aA5 (by rw[<-Hr.out]),hd⟩
theorem aJp(n:Int)(xs:List Int):(xs.any fun x=>!S.isLit n x)= !S.isClause n xs:=by
 unfold S.isClause;induction xs with
 | nil=>rfl
 | cons x r ih=>simp only[List.any_cons,List.all_cons,ih,Bool.not_and]
theorem aIa(w:World)(v:Value)(t:TypeId):(w.alloc (.cells #[v] t)).cell? ⟨w.heap.size,0,none⟩=some v:=by
 rw[cell_of_row _ _ 0 #[v] t (0,0) (Go.heap_alloc_new w _)];rfl
theorem aHh(n:Int)(A:Option Addr)(m c:Nat)(xs:List (List Int))(w:World)(hA:SlAt (SlR (IntR .i64)) w A m xs):
 Calls prog 61 #[.int .i64 n, .slice A m c] w fun e w'=>e= .returned (.int .i64 (S.aAe n xs))/\Below w.heap.size w w':=by
 have hl:=hA.le;have HA:=kH hA;clear hA
 by_cases h0:n<0
 ·go_enter func61,ntmps61
  go_wp2;go_ret;exact⟨aBb (by simp[S.aAe,h0]),al0⟩
 by_cases h1:4000<n
 ·go_enter func61,ntmps61
  go_wp2;go_ret;exact⟨aBb (by simp[S.aAe,h1]),al0⟩
 by_cases h2:24000<m
 ·go_enter func61,ntmps61
  go_wp2;go_ret;exact⟨aBb (by have:=HA.out.len;simp[S.aAe,this,h2]),al0⟩
 go_enter func61,ntmps61
 go_wp2
 go_loopw [20] (fun i wr=>∃k:Nat,k<=m/\i= .int .i64 k/\Dr (w.alloc (.cells #[.int .i64 n] 3)) wr/\Hid ((xs.take k).all (S.isClause n)=true)) (fun i _=>m- (intOf i).toNat)
 case atStart=>exact⟨0,zBL _,rfl,Dr.refl _,rfl⟩
 case round=>
  obtain⟨k,hk,rfl,hdr,HT⟩:=hrel;have hbw:Below w.heap.size w wr:=(al0).dr hdr
  by_cases hlt:k<m
  ·obtain⟨x,b,off,u,hx,rfl,_,hcl,A1,c1,rfl,s1⟩:=(HA.out.below (aC9 (aAd _)) hbw).at_ hlt;have con:=bA0 (fun x=>!S.isLit n x) w.heap.size A1 x.length c1 x wr s1 (fun y _ W hW=>
    (bAy n y w.heap.size W (by omega) (by omega) (by
     have h3:=(hdr.trans hW).below (w.heap.size+1);rw[h3.cell (p:=⟨w.heap.size,0,none⟩) (by simp)];exact aIa w _ _)).mono fun e w' ⟨he,hw⟩=>⟨he,by rw[hw];exact Dr.refl _⟩)
   rw[aJp]at con;clear s1;have Hx:=kH hx;clear hx;cases hp:S.isClause n x
   ·rw[hp]at con;have Hcon:=kH con;clear con;have Hp:=kH hp;clear hp
    go_wp2_with fail
    refine Hcon.out.mono ?_;rintro e w' ⟨rfl,hd⟩;go_wp2;go_ret;refine⟨aBb ?_,hbw.dr hd⟩;have:=HA.out.len;rw[S.aAe,if_neg (by omega),if_neg];rw[aEy Hx.out Hp.out];simp
   ·rw[hp]at con;have Hcon:=kH con;clear con;have Hp:=kH hp;clear hp
    go_wp2_with fail
    refine Hcon.out.mono ?_;rintro e w' ⟨rfl,hd⟩;go_wp2;go_roundw
    case rel=>exact⟨k+1,by omega,by go_num,hdr.trans hd,aEj Hx.out HT.out Hp.out⟩
    case measure=>simp[intOf];omega
  ·go_wp2;go_ret;refine⟨aBb ?_,hbw⟩;have:=HA.out.len;rw[S.aAe,if_neg (by omega),if_pos (aFm HA.out.len (by omega) HT.out)]
end
end Go.Proofs.YtchdbhggbdcapaaGreat
