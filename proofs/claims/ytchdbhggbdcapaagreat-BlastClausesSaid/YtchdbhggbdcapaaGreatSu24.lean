/- Part. -/
import Derived.Test.YtchdbhggbdcapaaGreatSuLX
import Derived.Test.YtchdbhggbdcapaaGreatSu22
import Derived.Test.YtchdbhggbdcapaaGreatSu23
import Derived.Test.YtchdbhggbdcapaaGreatSu02
set_option linter.unusedVariables false
set_option linter.unusedSimpArgs false
set_option maxRecDepth 100000
set_option maxHeartbeats 16000000
namespace Go.Proofs.YtchdbhggbdcapaaGreat
open _root_.Go.Proofs.Tryz
section
open Go.RowKit
namespace S
structure RB(n C:Nat)(cs0:List (List Int))(s:Sol)(pt wt:Nat):Prop where
 big:s.lrn≠ []->¬aA2 cs0 []/\∃c∈cs0,∀l∈c,¬Der cs0 [] l
 ll:s.lrn.length<=3000
 cl:s.cls.length<=C+s.lrn.length
 pa:60<=pt/\pt<=4000
 wa:wt<=s.lrn.length
 ls:∀c∈s.lrn,c.length<=n
def meas(n:Nat)(s:Sol)(pt wt:Nat):Nat:=(3000-s.lrn.length)* (2*n+5)+(if pt<=wt then n+2 else 0)+(n+1-s.lim.length)
section
variable {n C : Nat} {cs0 : List (List Int)} {s s' : Sol} {pt wt p : Nat}
theorem RB.sm(h:RB n C cs0 s pt wt)(hs:Sm s s'):RB n C cs0 s' pt wt:=⟨by rw[hs.lrn];exact h.big,by rw[hs.lrn];exact h.ll,by rw[hs.cl,hs.lrn];exact h.cl,h.pa,by rw[hs.lrn];exact h.wa,by rw[hs.lrn];exact h.ls⟩
theorem aVv(hs:Sm s s'):meas n s' pt wt=meas n s pt wt:=by unfold meas;rw[hs.lrn,hs.lim]
theorem RB.again(h:RB n C cs0 s pt wt)(hp:pt<=wt)(hl:s'.lrn=s.lrn)(hc:s'.cls=s.cls):RB n C cs0 s' (pt+pt / 5) 0:=
 ⟨by rw[hl];exact h.big,by rw[hl];exact h.ll,by rw[hc,hl];exact h.cl,by have:=h.pa;have:=h.wa;have:=h.ll;omega,zBL _,by rw[hl];exact h.ls⟩
theorem aN1(h:RB n C cs0 s pt wt)(hp:pt<=wt)(hl:s'.lrn=s.lrn):meas n s' (pt+pt / 5) 0<meas n s pt wt:=by
 have:=h.pa;unfold meas;rw[hl,if_pos hp,if_neg (by omega)];omega
theorem aLy(hl:s'.lrn=s.lrn)(hm:s'.lim.length=s.lim.length+1)(hn:s.lim.length<=n):meas n s' pt wt<meas n s pt wt:=by
 unfold meas;rw[hl,hm];omega
theorem aN2(hl:s'.lrn.length=s.lrn.length+1)(h3:s.lrn.length<3000):meas n s' pt (wt+1) < meas n s pt wt:=by
 unfold meas;rw[hl];obtain⟨k,hk⟩:∃k,3000-s.lrn.length=k+1:=⟨2999-s.lrn.length,by omega⟩;rw[hk,show 3000- (s.lrn.length+1)=k by omega,Nat.add_mul,Nat.one_mul];obtain⟨m,hm⟩:∃m,k* (2*n+5)=m:=⟨_,rfl⟩;rw[hm];split <;> split <;> omega
theorem aXk(hb:RB n C cs0 s pt wt)(hi:Inv n cs0 cs0 p s)(hcc:∀c∈cs0,isClause n c=true)(hlim:s.lim≠ []){k:Nat}{c:List Int}(hc:s.cls[k]? =some c)(hf:∀m∈c,S.val s.val m= -1)(hl3:s.lrn.length<3000)
 {a:Int} {rest:List Int} {bk at_:Nat} (hr:Lrnd n (cs0 ++ s.lrn) s a rest bk) (hL:s.lim[bk]? =some at_) (hnx:s.nxt=p+1) {rsn' phs':List Int} (r1:rsn'.length=n+1) (r2:∀v,v∉(s.trl.drop at_).map Int.natAbs->rsn'.getD v 0=s.rsn.getD v 0) (p1:phs'.length=n+1) (p2:∀v,v<=n->phs'.getD v 0=1\/phs'.getD v 0= -1):
 Inv n cs0 cs0 at_ (s.back bk at_ rsn' phs')/\(rest= []->Inv n cs0 cs0 ((s.back bk at_ rsn' phs').take1 a).nxt ((s.back bk at_ rsn' phs').take1 a)/\RB n C cs0 ((s.back bk at_ rsn' phs').take1 a) pt (wt+1))/\
 ∀b r,rest=b :: r->Inv n cs0 cs0 ((s.back bk at_ rsn' phs').take2 a b r).nxt ((s.back bk at_ rsn' phs').take2 a b r)/\RB n C cs0 ((s.back bk at_ rsn' phs').take2 a b r) pt (wt+1):=by
 have hsz:(a :: rest).length<=n:=by
  have:=aDu hr.dist (n:=n) (fun x hx=>by
   obtain⟨l,hl,rfl⟩:=zBU.1 hx;exact aBh (zAD.1 hr.lit l hl))
  simpa using this
 have hlarge:=hi.large rfl hcc hlim hc hf hb.big;have hi1:=hi.back hL r1 r2 p1 p2;obtain⟨q1,q2,q3,q4⟩:=hr.back hi hL rsn' phs';have hat:=hi.p2 _ (zAC hL);have htl:(s.back bk at_ rsn' phs').trl.length=at_:=q4;have hll:(s.back bk at_ rsn' phs').lim.length=bk:=q3;have hnn:(s.back bk at_ rsn' phs').nxt=at_:=by show min s.nxt at_=at_;omega
 have ht:=Inv.take (s:=s.back bk at_ rsn' phs') (by rw[htl];exact hi1) hr.lit hr.dist q1 q2 hr.inc hlarge.2;refine⟨hi1,fun he=>⟨?_,?_⟩,fun b r he=>⟨?_,?_⟩⟩
 ·have h1:=ht.1 he (List.length_eq_zero_iff.1 (by rw[hll];exact hr.emp he));rw[htl]at h1
  show Inv n cs0 cs0 (s.back bk at_ rsn' phs').nxt _
  rw[hnn];exact h1
 ·have hln:((s.back bk at_ rsn' phs').take1 a).lrn=s.lrn ++ [[a]]:=rfl;have he2:a :: rest= [a]:=by rw[he]
  have hcl:((s.back bk at_ rsn' phs').take1 a).cls=s.cls:=rfl;exact⟨fun _=>hlarge,by rw[hln];simp;omega,by rw[hln,hcl];simp;have:=hb.cl;omega,hb.pa,by rw[hln];simp;exact hb.wa,fun c hc=>by
   rw[hln]at hc;rcases zBE.1 hc with hc | hc
   ·exact hb.ls c hc
   ·rw[zBD.1 hc,<-he2];exact hsz⟩
 ·have h1:=ht.2 b r he (by show s.lvl.getD b.natAbs 0=_;rw[hll];exact hr.fst b (by rw[he];rfl));rw[htl]at h1
  show Inv n cs0 cs0 (s.back bk at_ rsn' phs').nxt _
  rw[hnn];exact h1
 ·have hln:((s.back bk at_ rsn' phs').take2 a b r).lrn=s.lrn ++ [a :: b :: r]:=rfl;have he2:a :: rest=a :: b :: r:=by rw[he]
  have hcl:((s.back bk at_ rsn' phs').take2 a b r).cls=s.cls ++ [a :: b :: r]:=rfl;exact⟨fun _=>hlarge,by rw[hln];simp;omega,by rw[hln,hcl];simp;have:=hb.cl;omega,hb.pa,by rw[hln];simp;exact hb.wa,fun c hc=>by
   rw[hln]at hc;rcases zBE.1 hc with hc | hc
   ·exact hb.ls c hc
   ·rw[zBD.1 hc,<-he2];exact hsz⟩
end
end S
def bFc(n:Nat)(cs0:List (List Int))(s':S.Sol)(e:Ending):Prop:=
 (e= .returned (.int .i64 0)/\S.Inv n cs0 cs0 s'.trl.length s'/\∀u,1<=u->u<=n->s'.val.getD u 0≠0)\/
 (e= .returned (.int .i64 1)/\S.aBg cs0 (s'.lrn ++ [[]])=none/\s'.lrn.length<=3000/\∀c∈s'.lrn,S.isClause n c=true/\c.length<=n)\/
 (e= .returned (.int .i64 2)/\¬S.aA2 cs0 []/\∃c∈cs0,∀l∈c,¬S.Der cs0 [] l)
def bEb(w:World)(B0 Sb n:Nat)(cs0:List (List Int))(e:Ending)(w':World):Prop:=
 ∃tg' v' s',SAt w' B0 Sb tg' n v' s'/\Below B0 w w'/\bFc n cs0 s' e
namespace S
theorem RB.eq{n C:Nat}{cs0:List (List Int)}{s s':Sol}{pt wt:Nat}(h:RB n C cs0 s pt wt)(hl:s'.lrn=s.lrn)(hc:s'.cls=s.cls):RB n C cs0 s' pt wt:=
 ⟨by rw[hl];exact h.big,by rw[hl];exact h.ll,by rw[hc,hl];exact h.cl,h.pa,by rw[hl];exact h.wa,by rw[hl];exact h.ls⟩
theorem aZr{n b:Nat}{p:Int}(h1:1<=b)(h2:b<=n)(hp:p=1\/p= -1):isLit n ((b:Int)*p)=true:=by
 rcases hp with rfl | rfl
 ·rw[Int.mul_one];exact aB1.2 (by omega)
 ·rw[Int.mul_neg,Int.mul_one];exact aB1.2 (by omega)
theorem aZs{b:Nat}{p:Int}{val:List Int}(h1:1<=b)(hp:p=1\/p= -1)(h0:val.getD b 0=0):S.val val ((b:Int)*p)=0:=by
 unfold S.val;rcases hp with rfl | rfl
 ·rw[Int.mul_one,if_pos (by omega)];simpa using h0
 ·rw[Int.mul_neg,Int.mul_one,if_neg (by omega),Int.neg_neg];simpa using h0
theorem Inv.at_{n:Nat}{cs0 done:List (List Int)}{p q:Nat}{s:Sol}(h:Inv n cs0 done p s)(e:p=q):Inv n cs0 done q s:=by subst e;exact h
theorem bB5{n:Nat}{val:List Int}{lvl:List Nat}{trl:List Int}{lim:List Nat}(h:Trl n val lvl trl lim)(hf:n<=trl.length){u:Nat}(h1:1<=u)(h2:u<=n):((u:Nat):Int).natAbs∈trl.map Int.natAbs:=by
 apply zAI;intro hn;have hd:(u :: trl.map Int.natAbs).Nodup:=List.nodup_cons.2 ⟨by simpa using hn,h.dist⟩;have:=aDu hd (n:=n) (fun x hx=>by
  rcases zBF.1 hx with rfl | hx
  ·exact⟨h1,h2⟩
  ·obtain⟨t,ht,rfl⟩:=zBU.1 hx;exact aBh (h.lits t ht))
 simp at this;omega
end S
section
variable {w : World} {B0 Sb n : Nat} {tg : TgF} {v : Sv} {s : S.Sol} {cs0 : List (List Int)}
theorem bB6(h:SAt w B0 Sb tg n v s)(hn:n<=4000)(hi:S.Inv n cs0 cs0 s.nxt s)(hcc:∀c∈cs0,S.isClause n c=true){C:Nat}(hC:C<=800000)(hb:S.RB n C cs0 s 60 0):
 Calls prog 60 #[.pointer (some ⟨Sb,0,none⟩)] w (bEb w B0 Sb n cs0):=by
 have H0:=kH (show SAt w B0 Sb tg n v s/\Below B0 w w/\S.Inv n cs0 cs0 s.nxt s/\S.RB n C cs0 s 60 0 from⟨h,Below.refl _ _,hi,hb⟩);have Hcc:=kH hcc;clear h hi hb hcc
 go_enter func60,ntmps60
 go_wp2
 go_step3
 go_wp2
 go_step3
 go_wp2
 go_loopg [3,4] (S.meas n s 60 0+1) (fun g i3 i4 wr=>∃(s1:S.Sol) (tg1:TgF) (v1:Sv) (pt wt:Nat),pt<=4000/\wt<=3000/\i3= .int .i64 (pt:Int)/\i4= .int .i64 (wt:Int)/\g=S.meas n s1 pt wt+1/\Hid (SAt wr B0 Sb tg1 n v1 s1/\Below B0 w wr/\S.Inv n cs0 cs0 s1.nxt s1/\S.RB n C cs0 s1 pt wt))
 case atStart=>exact⟨s,tg,v,60,0,by omega,by omega,rfl,rfl,rfl,H0⟩
 case round=>
  obtain⟨s1,tg1,v1,pt,wt,hpt,hwt,rfl,rfl,hgk,H1⟩:=hrel;have Hgk:=kH hgk;clear hgk H0;have hcl1:s1.cls.length<=900000:=by have:=H1.out.2.2.2.cl;have:=H1.out.2.2.2.ll;omega
  have Hpr:=kH (aOx H1.out.1 hn H1.out.2.2.1 hcl1);clear hcl1
  go_wp2_with fail
  refine Hpr.out.mono ?_;rintro e w2 ⟨tg2,v2,s2,k1,k2,k3,(⟨rfl,e1,e2⟩ |⟨k,p,c,rfl,e1,e2,e3,e4,e5⟩)⟩
  ·have H2:=kH (And.intro k1 (And.intro (H1.out.2.1.trans k2) (And.intro (H1.out.2.2.2.sm k3) (S.aVv (n:=n) (pt:=pt) (wt:=wt) k3))));have HE:=kH (And.intro e1 e2);clear k1 k2 k3 e1 e2 Hpr H1;have c3:=H2.out.1.c3;have hlim:=HE.out.2.trl.limsz;have htrs:=HE.out.2.trl.size;have Hcon:=kH (aT0 H2.out.1 hn HE.out.2.phs (by omega) (by
    rintro⟨u,u1,u2,u3⟩;have hfull:s2.trl.length<n:=by
     apply zAI;intro hge;have hin:((u:Nat):Int).natAbs∈s2.trl.map Int.natAbs:=S.bB5 HE.out.2.trl (by omega) u1 u2;obtain⟨t,ht,hte⟩:=zBU.1 hin;have htl:=HE.out.2.trl.lits t ht;have h1:=(HE.out.2.trl.vals t htl).2 ht;unfold S.val at h1;split at h1
     ·rw[show t.toNat=u from by omega]at h1;omega
     ·rw[show(-t).toNat=u from by omega]at h1;omega
    omega))
   by_cases hpw:pt<=wt
   ·have hd1:decide (pt<=wt)=true:=by simpa using hpw
    have hd1':decide ((pt:Int)<=(wt:Int))=true:=by simpa using hpw
    by_cases hn10:10<n
    ·have hd2:decide ((11:Int) <(n:Int)+1)=true:=by simp;omega
     by_cases hl0:s2.lim= []
     ·have Hbk:=kH (aWs (L:=0) H2.out.1 (by rw[hl0];exact zBJ _) (by omega));have hpa:=H2.out.2.2.1.pa;have hwa:=H2.out.2.2.1.wa;have hll:=H2.out.2.2.1.ll;have hq:(pt:Int).tdiv 5=((pt / 5:Nat):Int):=rfl;have HB:=kH (And.intro H2.out.1 (And.intro H2.out.2.1 (And.intro (show S.Inv n cs0 cs0 s2.nxt s2 from by rw[HE.out.1];exact HE.out.2) (H2.out.2.2.1.again (s':=s2) hpw rfl rfl))));have Hm:=kH (S.aN1 (n:=n) (s':=s2) H2.out.2.2.1 hpw rfl);clear hl0
      go_wp2_with fail
      refine Hbk.out.mono ?_;rintro e w3 ⟨rfl,rfl⟩;clear Hbk;have hgk:=Hgk.out;have hmm:=Hm.out;have hms:=H2.out.2.2.2;clear Hcon c3;go_wp2
      first |(rw[Exit.noGoto_normal];go_wp2) | skip
      go_roundg (S.meas n s2 (pt+pt / 5) 0+1)
      case measure=>omega
      case rel=>exact⟨s2,tg2,v2,pt+pt / 5,0,by omega,by omega,by simp,rfl,rfl,HB⟩
     ·obtain⟨at_,hat⟩:∃a,s2.lim[0]? =some a:=⟨_,zAB (List.length_pos_iff.2 hl0)⟩;have Hbk:=kH (aPn (L:=0) H2.out.1 hn HE.out.2.trl HE.out.2.phs hat (by rw[HE.out.1];omega));have hpa:=H2.out.2.2.1.pa;have hwa:=H2.out.2.2.1.wa;have hll:=H2.out.2.2.1.ll;have hq:(pt:Int).tdiv 5=((pt / 5:Nat):Int):=rfl;have Hat:=kH hat;clear hat hl0
      go_wp2_with fail
      refine Hbk.out.mono ?_;rintro e w3 ⟨rfl,v3,rsn',phs',b1,b2,b3,b4,b5,b6⟩;have hnx:(s2.back 0 at_ rsn' phs').nxt=at_:=by
       have h1:=HE.out.2.p2 _ (zAC Hat.out)
       show min s2.nxt at_=at_
       rw[HE.out.1];omega
      have HB:=kH (And.intro b1 (And.intro (H2.out.2.1.trans b2.1) (And.intro (show S.Inv n cs0 cs0 (s2.back 0 at_ rsn' phs').nxt (s2.back 0 at_ rsn' phs')from by rw[hnx];exact HE.out.2.back Hat.out b3 b4 b5 b6) (H2.out.2.2.1.again (s':=s2.back 0 at_ rsn' phs') hpw rfl rfl))));have Hm:=kH (S.aN1 (n:=n) (s':=s2.back 0 at_ rsn' phs') H2.out.2.2.1 hpw rfl);clear hnx b1 b2 b3 b4 b5 b6 Hbk;have hgk:=Hgk.out;have hmm:=Hm.out;have hms:=H2.out.2.2.2;clear Hcon c3;go_wp2
      first |(rw[Exit.noGoto_normal];go_wp2) | skip
      go_roundg (S.meas n (s2.back 0 at_ rsn' phs') (pt+pt / 5) 0+1)
      case measure=>omega
      case rel=>exact⟨(s2.back 0 at_ rsn' phs'),tg2,v3,pt+pt / 5,0,by omega,by omega,by simp,rfl,rfl,HB⟩
    ·have hd2:decide ((11:Int) <(n:Int)+1)=false:=by simp;omega
     go_wp2_with fail
     refine Hcon.out.mono ?_;rintro e w3 (⟨rfl,d1,d2⟩ |⟨b,tg3,v3,rfl,b1,b2,b3,b4,b5⟩)
     ·have HD:=kH (And.intro d1 d2);clear d1 d2 Hcon c3;go_wp2
      first |(rw[Exit.noGoto_ret];go_wp2) | skip
      go_ret;exact⟨tg2,v2,s2,H2.out.1.dr HD.out.2,H2.out.2.1.dr HD.out.2, .inl ⟨rfl,HE.out.2,HD.out.1⟩⟩
     ·have hph:=HE.out.2.phs b b2;have HB:=kH (And.intro b4 (And.intro (H2.out.2.1.trans b5) (And.intro (HE.out.2.choose (S.aZr b1 b2 hph) (S.aZs b1 hph b3)) (H2.out.2.2.1.eq (s':=S.Sol.tell {s2 with lim:=s2.lim ++ [s2.trl.length]} ((b:Int)*s2.phs.getD b 0) (-1)) rfl rfl))));have Hm:=kH (S.aLy (n:=n) (s:=s2) (s':=S.Sol.tell {s2 with lim:=s2.lim ++ [s2.trl.length]} ((b:Int)*s2.phs.getD b 0) (-1)) (pt:=pt) (wt:=wt) rfl (by show(s2.lim ++ [s2.trl.length]).length=_;simp) (by omega));clear b1 b2 b3 b4 b5 hph Hcon c3;go_wp2
      first |(rw[Exit.noGoto_normal];go_wp2) | skip
      have hgk:=Hgk.out;have hmm:=Hm.out;have hms:=H2.out.2.2.2
      go_roundg (S.meas n (S.Sol.tell {s2 with lim:=s2.lim ++ [s2.trl.length]} ((b:Int)*s2.phs.getD b 0) (-1)) pt wt+1)
      case measure=>omega
      case rel=>exact⟨_,tg3,v3,pt,wt,hpt,hwt,rfl,rfl,rfl,kH ⟨HB.out.1,HB.out.2.1,HB.out.2.2.1.at_ HE.out.1.symm,HB.out.2.2.2⟩⟩
   ·have hd1:decide (pt<=wt)=false:=by simpa using hpw
    have hd1':decide ((pt:Int)<=(wt:Int))=false:=by simpa using hpw
    go_wp2_with fail
    refine Hcon.out.mono ?_;rintro e w3 (⟨rfl,d1,d2⟩ |⟨b,tg3,v3,rfl,b1,b2,b3,b4,b5⟩)
    ·have HD:=kH (And.intro d1 d2);clear d1 d2 Hcon c3;go_wp2
     first |(rw[Exit.noGoto_ret];go_wp2) | skip
     go_ret;exact⟨tg2,v2,s2,H2.out.1.dr HD.out.2,H2.out.2.1.dr HD.out.2, .inl ⟨rfl,HE.out.2,HD.out.1⟩⟩
    ·have hph:=HE.out.2.phs b b2;have HB:=kH (And.intro b4 (And.intro (H2.out.2.1.trans b5) (And.intro (HE.out.2.choose (S.aZr b1 b2 hph) (S.aZs b1 hph b3)) (H2.out.2.2.1.eq (s':=S.Sol.tell {s2 with lim:=s2.lim ++ [s2.trl.length]} ((b:Int)*s2.phs.getD b 0) (-1)) rfl rfl))));have Hm:=kH (S.aLy (n:=n) (s:=s2) (s':=S.Sol.tell {s2 with lim:=s2.lim ++ [s2.trl.length]} ((b:Int)*s2.phs.getD b 0) (-1)) (pt:=pt) (wt:=wt) rfl (by show(s2.lim ++ [s2.trl.length]).length=_;simp) (by omega));clear b1 b2 b3 b4 b5 hph Hcon c3;go_wp2
     first |(rw[Exit.noGoto_normal];go_wp2) | skip
     have hgk:=Hgk.out;have hmm:=Hm.out;have hms:=H2.out.2.2.2
     go_roundg (S.meas n (S.Sol.tell {s2 with lim:=s2.lim ++ [s2.trl.length]} ((b:Int)*s2.phs.getD b 0) (-1)) pt wt+1)
     case measure=>omega
     case rel=>exact⟨_,tg3,v3,pt,wt,hpt,hwt,rfl,rfl,rfl,kH ⟨HB.out.1,HB.out.2.1,HB.out.2.2.1.at_ HE.out.1.symm,HB.out.2.2.2⟩⟩
  ·have H2:=kH (And.intro k1 (And.intro (H1.out.2.1.trans k2) (And.intro (H1.out.2.2.2.sm k3) (S.aVv (n:=n) (pt:=pt) (wt:=wt) k3))));have HE:=kH (And.intro e1 (And.intro e2 (And.intro e3 (And.intro e4 e5))));clear k1 k2 k3 e1 e2 e3 e4 e5 Hpr H1;obtain⟨Af,cf,hli⟩:=H2.out.1.li.1.form;obtain⟨Ar,cr,hlr⟩:∃A c,v2.lr= .slice A s2.lrn.length c:=by
    obtain⟨us,q1,_⟩:=H2.out.1.lr;exact q1.1.form
   have c7:w2.cell? ⟨Sb,7,none⟩=some (.slice Af s2.lim.length cf):=by rw[H2.out.1.c7,hli]
   have c1:w2.cell? ⟨Sb,1,none⟩=some (.slice Ar s2.lrn.length cr):=by rw[H2.out.1.c1,hlr]
   have hll:=H2.out.2.2.1.ll;clear hli hlr
   by_cases hl0:s2.lim= []
   ·have hz:((s2.lim.length:Int)== 0)=true:=by rw[hl0];rfl
    have Hl0:=kH hl0;clear hl0;go_wp2
    first |(rw[Exit.noGoto_ret];go_wp2) | skip
    go_ret;exact⟨tg2,v2,s2,H2.out.1,H2.out.2.1, .inr (.inl ⟨rfl,HE.out.2.2.1.lost Hl0.out HE.out.1 HE.out.2.1,hll,fun c hc=>⟨HE.out.2.2.1.lgd c hc,H2.out.2.2.1.ls c hc⟩⟩)⟩
   ·have hlp:0<s2.lim.length:=List.length_pos_iff.2 hl0;have hz:((s2.lim.length:Int)== 0)=false:=by
     rw[Bool.eq_false_iff];intro e;have:=eq_of_beq e;omega
    have Hl0:=kH hl0;clear hl0
    by_cases hl3:s2.lrn.length<3000
    ·have hd3:decide ((3000:Int)<=(s2.lrn.length:Int))=false:=by simp;omega
     have hd3':decide (3000<=s2.lrn.length)=false:=by simp;omega
     have hcl2:s2.cls.length<=900000:=by have:=H2.out.2.2.1.cl;omega
     have Hle:=kH (aXj H2.out.1 hn HE.out.2.2.1 Hl0.out HE.out.1 HE.out.2.1 hcl2)
     go_wp2_with fail
     refine Hle.out.mono ?_;rintro e w3 ⟨A,cap,a,rest,bk,ri',rfl,l1,l2,l3,l4,l5⟩;obtain⟨at_,hat⟩:∃a,s2.lim[bk]? =some a:=⟨_,zAB l5.lt⟩;have hnxm:s2.nxt<=100000:=by have:=HE.out.2.2.2.2;have:=HE.out.2.2.1.trl.size;omega
     have Hbk:=kH (aPn (L:=bk) l1 hn HE.out.2.2.1.trl HE.out.2.2.1.phs hat hnxm);have HL:=kH (And.intro l1 (And.intro l2 (And.intro l3 (And.intro l4 l5))));have Hat:=kH hat;clear l1 l2 l3 l4 l5 hat hnxm Hle c7 c1 hz hd3 hd3'
     go_wp2_with fail
     refine Hbk.out.mono ?_;rintro e w4 ⟨rfl,v4,rsn',phs',b1,b2,b3,b4,b5,b6⟩;have hstep:=S.aXk H2.out.2.2.1 HE.out.2.2.1 Hcc.out Hl0.out HE.out.1 HE.out.2.1 hl3 HL.out.2.2.2.2 Hat.out HE.out.2.2.2.1 b3 b4 b5 b6;have hb0:B0<=w2.heap.size:=by have:=H2.out.1.lt _ _ H2.out.1.st.2;omega
     have hown:OwnAt w4 3 1 (.slice A (rest.length+1) cap) (rest.length+1) (siv (a :: rest)):=HL.out.2.2.1.same fun g hg=>b2.2.keep g (HL.out.2.2.1.lt g hg) (H2.out.1.none_ (HL.out.2.2.2.1 g hg))
     have hun:∀g,(Value.slice A (rest.length+1) cap).ownBlock=some g->B0<=g/\tg2 g=none:=fun g hg=>⟨zBK hb0 (HL.out.2.2.2.1 g hg),H2.out.1.none_ (HL.out.2.2.2.1 g hg)⟩
     have HK:=kH (And.intro b1 (And.intro b2 hstep));have hts4:(s2.back bk at_ rsn' phs').trl.length<=4000:=by have:=hstep.1.trl.size;omega
     have hls4:(s2.back bk at_ rsn' phs').lim.length<=4000:=by have:=hstep.1.trl.limsz;omega
     have hlr4:(s2.back bk at_ rsn' phs').lrn.length<=900000:=by show s2.lrn.length<=_;omega
     have hlits:=zAD.1 HL.out.2.2.2.2.lit;clear b1 b2 b3 b4 b5 b6 hstep Hbk hb0;cases rest with
     | nil=>
      have Htk:=kH (aWz HK.out.1 hn (a:=a) (hlits a (by simp)) hts4 hls4 hlr4 hown hun);clear hown hun hts4 hls4 hlr4 hlits;rw[show([]:List Int).length+1=1 from rfl]
      go_wp2_with fail
      refine Htk.out.mono ?_;rintro e w5 ⟨rfl,tg5,v5,t1,t2⟩;have HT:=kH (And.intro t1 (And.intro ((((H2.out.2.1.trans HL.out.2.1).trans HK.out.2.1.1)).trans t2) (HK.out.2.2.2.1 (by simp))));clear t1 t2 Htk;obtain⟨y,hy⟩:=HT.out.1.ri;have c10:w5.cell? ⟨Sb,10,none⟩=some (.float .f64 y):=by rw[HT.out.1.c10,hy]
      obtain⟨r9,W9,hmul,hdr⟩:=aDp (P:=prog) w5 .mul (.inr rfl) 102 y 4607407598781385933;have HS9:=kH (HT.out.1.dr hdr);have HB9:=kH (HT.out.2.1.dr hdr);have f10:=HS9.out.st.frz 10;have d10:=HS9.out.c10;have hst:=fun(a:Addr) (b:Nat) (m:Mode) (W:World)=>run_store prog W a (.float .f64 b) m rfl
      clear hdr hy;go_wp2;have HF:=kH (And.intro (HS9.out.setRi (.float .f64 r9) ⟨r9,rfl⟩) (HB9.out.setCell (p:=⟨Sb,10,none⟩) (HS9.out.lt _ _ HS9.out.st.2).1 (.float .f64 r9)))
      first |(rw[Exit.noGoto_normal];go_wp2) | skip
      have hgk:=Hgk.out;have hmm:=S.aN2 (n:=n) (s:=s2) (s':=((s2.back bk at_ rsn' phs').take1 a)) (pt:=pt) (wt:=wt) (by simp[S.Sol.take1,S.Sol.take2,S.Sol.tell,S.Sol.back]) hl3;have hms:=H2.out.2.2.2;have hwa:=H2.out.2.2.1.wa;clear c10 hmul f10 d10 hst
      go_roundg (S.meas n ((s2.back bk at_ rsn' phs').take1 a) pt (wt+1)+1)
      case measure=>omega
      case rel=>exact⟨((s2.back bk at_ rsn' phs').take1 a),tg5,_,pt,wt+1,hpt,by omega,rfl,by simp,rfl,kH ⟨HF.out.1,HF.out.2,HT.out.2.2.1,HT.out.2.2.2⟩⟩
     | cons b r=>
      have hd:=HL.out.2.2.2.2.dist;have hab:S.pl a≠S.pl b:=fun e=>S.aE1 hd (S.aEt e (S.aAc (hlits a (by simp))))
      have hsm:=HK.out.2.2.1.wat;have hcl4:(s2.back bk at_ rsn' phs').cls.length<=900000:=hcl2;have hrm:r.length<=100000:=by
       have h1:=S.aDu hd (n:=n) (fun x hx=>by
        obtain⟨y,hy,rfl⟩:=zBU.1 hx;exact S.aBh (hlits y hy))
       simp at h1;omega
      have Htk:=kH (aW5 HK.out.1 hn (a:=a) (b:=b) (r:=r) (hlits a (by simp)) (hlits b (by simp)) hab hcl4 ⟨zBK (hsm.small (hlits a (by simp))) hcl4,zBK (hsm.small (hlits b (by simp))) hcl4⟩ hts4 hls4 hlr4 hrm hown hun);clear hown hun hts4 hls4 hlr4 hlits hd hab hsm hcl4 hrm;rw[show(b :: r).length+1=r.length+2 from rfl]
      go_wp2_with fail
      refine Htk.out.mono ?_;rintro e w5 ⟨rfl,tg5,v5,t1,t2⟩;have HT:=kH (And.intro t1 (And.intro ((((H2.out.2.1.trans HL.out.2.1).trans HK.out.2.1.1)).trans t2) (HK.out.2.2.2.2 b r rfl)));clear t1 t2 Htk;obtain⟨y,hy⟩:=HT.out.1.ri;have c10:w5.cell? ⟨Sb,10,none⟩=some (.float .f64 y):=by rw[HT.out.1.c10,hy]
      obtain⟨r9,W9,hmul,hdr⟩:=aDp (P:=prog) w5 .mul (.inr rfl) 102 y 4607407598781385933;have HS9:=kH (HT.out.1.dr hdr);have HB9:=kH (HT.out.2.1.dr hdr);have f10:=HS9.out.st.frz 10;have d10:=HS9.out.c10;have hst:=fun(a:Addr) (b:Nat) (m:Mode) (W:World)=>run_store prog W a (.float .f64 b) m rfl
      clear hdr hy;go_wp2;have HF:=kH (And.intro (HS9.out.setRi (.float .f64 r9) ⟨r9,rfl⟩) (HB9.out.setCell (p:=⟨Sb,10,none⟩) (HS9.out.lt _ _ HS9.out.st.2).1 (.float .f64 r9)))
      first |(rw[Exit.noGoto_normal];go_wp2) | skip
      have hgk:=Hgk.out;have hmm:=S.aN2 (n:=n) (s:=s2) (s':=((s2.back bk at_ rsn' phs').take2 a b r)) (pt:=pt) (wt:=wt) (by simp[S.Sol.take1,S.Sol.take2,S.Sol.tell,S.Sol.back]) hl3;have hms:=H2.out.2.2.2;have hwa:=H2.out.2.2.1.wa;clear c10 hmul f10 d10 hst
      go_roundg (S.meas n ((s2.back bk at_ rsn' phs').take2 a b r) pt (wt+1)+1)
      case measure=>omega
      case rel=>exact⟨((s2.back bk at_ rsn' phs').take2 a b r),tg5,_,pt,wt+1,hpt,by omega,rfl,by simp,rfl,kH ⟨HF.out.1,HF.out.2,HT.out.2.2.1,HT.out.2.2.2⟩⟩
    ·have hd3:decide ((3000:Int)<=(s2.lrn.length:Int))=true:=by simp;omega
     have hd3':decide (3000<=s2.lrn.length)=true:=by simp;omega
     have hlg:=HE.out.2.2.1.large rfl Hcc.out Hl0.out HE.out.1 HE.out.2.1 H2.out.2.2.1.big;have Hlg:=kH hlg;clear hlg;go_wp2
     first |(rw[Exit.noGoto_ret];go_wp2) | skip
     go_ret;exact⟨tg2,v2,s2,H2.out.1,H2.out.2.1, .inr (.inr ⟨rfl,Hlg.out.1,Hlg.out.2⟩)⟩
end
namespace S
def Sol.addc(s:Sol)(a b:Int)(c:List Int):Sol:=
 {s with cls:=s.cls ++ [c],wat:=(s.wat.set (pl a) (s.wat.getD (pl a) []++ [s.cls.length])).set (pl b) ((s.wat.set (pl a) (s.wat.getD (pl a) []++ [s.cls.length])).getD (pl b) []++ [s.cls.length])}
end S
def aVw(w:World)(B0 Sb n:Nat)(r:Bool)(s':S.Sol)(e:Ending)(w':World):Prop:=
 e= .returned (.bool r)/\∃tg' v',SAt w' B0 Sb tg' n v' s'/\Below B0 w w'
section
variable {w : World} {B0 Sb n : Nat} {tg : TgF} {v : Sv} {s : S.Sol}
theorem aZt(A:Option Addr)(c:Nat)(p:Value)(w:World):Calls prog 59 #[p, .slice A 0 c] w fun e w'=>e= .returned (.bool false)/\w=w':=by
 go_enter func59,ntmps59
 go_wp2;go_ret;exact⟨rfl,rfl⟩
theorem aZu(h:SAt w B0 Sb tg n v s)(hn:n<=4000){l:Int}(hl:S.isLit n l=true)(hwf:S.Wf n s.val)(hsz:s.trl.length<=4000)(hls:s.lim.length<=4000){g off c:Nat}(hu:OwnAt w 3 1 (.slice (some ⟨g,off,none⟩) 1 c) 1 (siv [l]))(hc:w.cell? ⟨g,off,none⟩=some (.int .i64 l)):
 Calls prog 59 #[.pointer (some ⟨Sb,0,none⟩), .slice (some ⟨g,off,none⟩) 1 c] w (aVw w B0 Sb n (!decide (S.val s.val l<0)) (if S.val s.val l=0 then s.tell l (-1)else s)):=by
 have H1:=kH (aLe h hn hl hwf.tri);have H2:=kH (aFg h hn hl hsz hls (-1));have HS:=kH h;have hv:=hwf.val l;obtain⟨x,hx⟩:∃x,S.val s.val l=x:=⟨_,rfl⟩;rw[hx]at H1 hv⊢;clear h hl hwf hu hx;rcases hv with rfl | rfl | rfl
 ·go_enter func59,ntmps59
  go_wp2_with fail
  refine H1.out.mono ?_;rintro e w' ⟨rfl,rfl⟩;go_wp2;go_ret;exact⟨rfl,tg,v,HS.out,Below.refl _ _⟩
 ·go_enter func59,ntmps59
  go_wp2_with fail
  refine H1.out.mono ?_;rintro e w' ⟨rfl,rfl⟩
  go_wp2_with fail
  refine H1.out.mono ?_;rintro e w' ⟨rfl,rfl⟩
  go_wp2_with fail
  refine H2.out.mono ?_;rintro e w' ⟨rfl,tg',v',h1,h2,h3⟩;have Hq:=kH (show SAt w' B0 Sb tg' n v' (s.tell l (-1))/\Below B0 w w' from⟨h1,h3⟩);clear h1 h2 h3;go_wp2;go_ret;exact⟨rfl,tg',v',Hq.out.1,Hq.out.2⟩
 ·go_enter func59,ntmps59
  go_wp2_with fail
  refine H1.out.mono ?_;rintro e w' ⟨rfl,rfl⟩
  go_wp2_with fail
  refine H1.out.mono ?_;rintro e w' ⟨rfl,rfl⟩;go_wp2;go_ret;exact⟨rfl,tg,v,HS.out,Below.refl _ _⟩
theorem aZv(h:SAt w B0 Sb tg n v s)(hn:n<=4000){a b:Int}{r:List Int}(hla:S.isLit n a=true)(hlb:S.isLit n b=true)(hab:S.pl a≠S.pl b)(hcm:s.cls.length<=900000)(hwl:(s.wat.getD (S.pl a) []).length<=900000/\(s.wat.getD (S.pl b) []).length<=900000){A:Option Addr}{c:Nat}(hu:OwnAt w 3 1 (.slice A (r.length+2) c) (r.length+2) (siv (a :: b :: r)))(hun:∀g,(Value.slice A (r.length+2) c).ownBlock=some g->B0<=g/\tg g=none):
 Calls prog 59 #[.pointer (some ⟨Sb,0,none⟩), .slice A (r.length+2) c] w (aVw w B0 Sb n true (s.addc a b (a :: b :: r))):=by
 obtain⟨us,c1,c2⟩:=h.cl;obtain⟨Ac,cc,hcl⟩:=c1.1.form;have Hcl:=kH hcl;have hl2:=hu.le;have HS:=kH h;have Hu:=kH hu;have Hun:=kH hun;have Hc1:=kH c1;have Hc2:=kH c2;have Hla:=kH hla;have Hlb:=kH hlb;have Hab:=kH hab;have Hwl:=kH hwl;have hown:OwnAt w 37 1 (.slice Ac s.cls.length cc) s.cls.length us:=by rw[<-hcl];exact c1.1
 have Hown:=kH hown;have c0:w.cell? ⟨Sb,0,none⟩=some (.slice Ac s.cls.length cc):=by rw[h.c0,hcl]
 have c0':(w.alloc (.cells #[.slice A (r.length+2) c] 37)).cell? ⟨Sb,0,none⟩=some (.slice Ac s.cls.length cc):=((al0).cell (p:=⟨Sb,0,none⟩) (h.lt _ _ h.st.2).2).trans c0;clear h hla hlb hab hwl hu hun c1 c2 hown hcl
 go_enter func59,ntmps59
 go_upto_region 10 with(fail)
 go_upto_region 11 with(at_builtin;refine aAk _ rfl (.tmp 32) (.tmp 34) 25 rfl 37 (.slice none 0 0) 24 underlying25 Tryz.sinfoInts rfl _ s.cls.length us rfl Hown.out (.slice A (r.length+2) c) rfl 37 rfl (by omega) (by omega) ?_;intro v' w4 hown' hgr hat;obtain⟨Av,cv,hv⟩:=hown'.form;subst hv;obtain⟨q1,q2,tg',q3,q4⟩:=HS.out.pushCls (c:=a :: b :: r) (u:= .slice A (r.length+2) c) (v':= .slice Av (s.cls.length+1) cv) (w1:=w4) (E:=37) Hu.out Hun.out Hc1.out Hc2.out hown' (by rw[show v.cl=_ from Hcl.out];exact hgr) (by rw[show v.cl=_ from Hcl.out];exact hat);have Hq:=kH q3;have Hqb:=kH q4;clear q3 q4 hown' hgr hat)
 obtain⟨Z,hZ⟩:∃Z,Z=w4.setCell ⟨Sb,0,none⟩ (.slice Av (s.cls.length+1) cv):=⟨_,rfl⟩;rw[<-hZ]at Hq Hqb⊢;clear hZ q1 q2 c0 c0' Hown Hc1 Hc2 Hcl Hu Hun;have c0:Z.cell? ⟨Sb,0,none⟩=some (.slice Av (s.cls.length+1) cv):=Hq.out.c0;have hk1:(s.cls ++ [a :: b :: r])[s.cls.length]? =some (a :: b :: r):=by simp
 have Hw1:=kH (aFx (i:=0) Hq.out hn hk1 rfl Hla.out (by omega) (by omega) (by have:=Hwl.out.1;show(s.wat.getD (S.pl a) []).length<=_;omega) (I:=0) rfl);clear hk1
 go_wp2_with fail
 refine Hw1.out.mono ?_;rintro e w1 ⟨rfl,tg1,h1,_,h3⟩;have H1:=kH h1;have H3:=kH (Hqb.out.trans h3);clear h1 h3 c0;have c0:w1.cell? ⟨Sb,0,none⟩=some (.slice Av (s.cls.length+1) cv):=H1.out.c0;have hk1:(s.cls ++ [a :: b :: r])[s.cls.length]? =some (a :: b :: r):=by simp
 have Hw2:=kH (aFx (i:=1) H1.out hn hk1 rfl Hlb.out (by omega) (by omega) (by
  show((s.wat.set (S.pl a) (s.wat.getD (S.pl a) []++ [s.cls.length])).getD (S.pl b) []).length<=_
  rw[S.getD_setL,if_neg (fun e=>Hab.out e.1)];have:=Hwl.out.2;omega) (I:=1) rfl)
 clear hk1
 go_wp2_with fail
 refine Hw2.out.mono ?_;rintro e w2 ⟨rfl,tg2,h1,_,h3⟩;have H5:=kH h1;have H6:=kH (H3.out.trans h3);clear h1 h3;go_wp2;go_ret;exact⟨rfl,tg2,_,H5.out,H6.out⟩
end
namespace Gro
theorem makes_call{P:Program}{ops:Array Oper}{i:Nat}{o:Oper}{act:Act}{X:World}{K:Act->World->Prop}{f:FuncId}{args:Array Value}{R:Ending->World->Prop}(ho:ops[i]? =some o)(hg:o.guard=none)(hrun:(execOp act.eval o).run P X= .ok (.enter f args) X)(hc:Calls P f args X R)
 (h:∀e w',R e w'->∃v,e= .returned v/\K (act.put o.dst v) w'):wpOp P ops (Rg.onlyK K) i K act X:=by
 have hwant:Region.wanted o (yielded ops act.tmps)=true:=by unfold Region.wanted;rw[hg]
 unfold wpOp;simp only[ho];rw[if_pos hwant]
 left
 unfold Oper.wp;rw[hrun,Oper.upon_enter];refine hc.mono fun e w' he=>?_
 obtain⟨v,rfl,hk⟩:=h e w' he;exact hk
end Gro
def RowF(X:World)(v:Value)(N:Nat)(z:Value)(T:TypeId):Prop:=∃b,v= .slice (some ⟨b,0,none⟩) N N/\X.heap[b]? =some (.cells (List.replicate N z).toArray T (0,0))
namespace Nw
def al(k:Nat):Bool:=k == 3 || k == 6 || k == 9 || k == 10 || k == 13 || k == 16 || k == 17 || k == 20
def rt(k:Nat):Nat:=k
def us(_:Nat):Option Nat:=none
def bl(v:Value):Option Nat:=v.ownBlock
def Φ(n:Nat)(k:Nat)(v:Value)(X:World):Prop:=
 if k=3 then RowF X v (2*n+2) (.slice none 0 0) 37 else if k=6 then RowF X v (n+1) (.int .i64 0) 3 else if k=9 then RowF X v (n+1) (.int .i64 0) 3
 else if k=10 then RowF X v 1 (.int .i64 (-1)) 3 else if k=13 then RowF X v (n+1) (.int .i64 (-1)) 3 else if k=16 then RowF X v (n+1) (.float .f64 0) 102
 else if k=17 then RowF X v 1 (.int .i64 (-1)) 3 else if k=20 then RowF X v (n+1) (.int .i64 (-1)) 3 else False
theorem bB7{X X':World}{v:Value}{N:Nat}{z:Value}{T:TypeId}{row:Option Nat}(h:RowF X v N z T)(hg:X.grownBy X' row)(hr:∀r,bl v=some r->r<X.heap.size/\row≠some r):RowF X' v N z T:=by
 obtain⟨b,rfl,hb⟩:=h;obtain⟨h1,h2⟩:=hr b rfl;exact⟨b,rfl,(hg.block b h1 h2.symm).trans hb⟩
theorem keep{n:Nat}:∀k v X X' row,Φ n k v X->X.grownBy X' row->(∀r,bl v=some r->r<X.heap.size/\row≠some r)->Φ n k v X':=by
 intro k v X X' row h hg hr;unfold Φ at h⊢
 repeat' split at h
 all_goals first | exact h.elim | skip
 all_goals simp_all
 all_goals exact bB7 h hg hr
theorem als{i:Nat}(h:al i=true):i=3\/i=6\/i=9\/i=10\/i=13\/i=16\/i=17\/i=20:=by
 unfold al at h;simp only[Bool.or_eq_true,beq_iff_eq]at h;omega
theorem edg_of{md:Region.Mode}{o:Oper}{k:Nat}(h:(o.after.any fun e=>Region.binds md e && e.on == k)=true):Gro.Edg md o k:=by
 rw[Array.any_eq_true']at h;obtain⟨e,he,hb⟩:=h;simp at hb;exact⟨e,he,hb.1,hb.2⟩
theorem row_new(X:World)(N:Nat)(z:Value)(T:TypeId):RowF (X.alloc (.cells (Array.replicate N z) T)) (.slice (some ⟨X.heap.size,0,none⟩) N N) N z T:=⟨_,rfl,by rw[heap_alloc_new];simp⟩
end Nw
def bEc(n:Nat)(W:World)(e:Ending)(w':World):Prop:=
 ∃Sb tg v,e= .returned (.pointer (some ⟨Sb,0,none⟩))/\SAt w' W.heap.size Sb tg n v (S.Sol.new n)/\Below W.heap.size W w'
def ntg(a b c d e f g:Nat):TgF:=fun x=>if x=a then some .st else if x=b then some .wat else if x=c then some .val else if x=d then some .lvl else if x=e then some .rsn else if x=f then some .wgt else if x=g then some .phs else none
theorem bEd{n B0:Nat}{w:World}{b3 b6 b9 b13 b16 b20:Nat}(x:Nat)
 (h3:w.heap[b3]? =some (.cells (List.replicate (2*n+2) (.slice none 0 0)).toArray 37 (0,0))) (h6:w.heap[b6]? =some (.cells (List.replicate (n+1) (.int .i64 0)).toArray 3 (0,0))) (h9:w.heap[b9]? =some (.cells (List.replicate (n+1) (.int .i64 0)).toArray 3 (0,0)))
 (h13:w.heap[b13]? =some (.cells (List.replicate (n+1) (.int .i64 (-1))).toArray 3 (0,0))) (h16:w.heap[b16]? =some (.cells (List.replicate (n+1) (.float .f64 0)).toArray 102 (0,0))) (h20:w.heap[b20]? =some (.cells (List.replicate (n+1) (.int .i64 (-1))).toArray 3 (0,0)))
 (g3:B0<=b3) (g6:B0<=b6) (g9:B0<=b9) (g13:B0<=b13) (g16:B0<=b16) (g20:B0<=b20)
 (n1:b3≠b6) (n2:b3≠b9) (n3:b3≠b13) (n4:b3≠b16) (n5:b3≠b20) (n6:b6≠b9) (n7:b6≠b13) (n8:b6≠b16) (n9:b6≠b20) (n10:b9≠b13) (n11:b9≠b16) (n12:b9≠b20) (n13:b13≠b16) (n14:b13≠b20) (n15:b16≠b20):
 SAt (w.alloc (.cells #[.slice none 0 0, .slice none 0 0, .slice (some ⟨b3,0,none⟩) (2*n+2) (2*n+2), .slice (some ⟨b6,0,none⟩) (n+1) (n+1), .slice (some ⟨b9,0,none⟩) (n+1) (n+1), .slice (some ⟨b13,0,none⟩) (n+1) (n+1), .slice none 0 0, .slice none 0 0, .int .i64 0, .slice (some ⟨b16,0,none⟩) (n+1) (n+1), .float .f64 x, .slice (some ⟨b20,0,none⟩) (n+1) (n+1)] 104)) B0 w.heap.size (ntg w.heap.size b3 b6 b9 b13 b16 b20) n
  ⟨.slice none 0 0, .slice none 0 0, .slice none 0 0, .slice none 0 0,b3,b6,b9,b13,b16,b20, .float .f64 x⟩ (S.Sol.new n):=by
 have l3:=(gA h3).1;have l6:=(gA h6).1;have l9:=(gA h9).1;have l13:=(gA h13).1;have l16:=(gA h16).1;have l20:=(gA h20).1;have e1:ntg w.heap.size b3 b6 b9 b13 b16 b20 w.heap.size=some .st:=by simp[ntg]
 have e3:ntg w.heap.size b3 b6 b9 b13 b16 b20 b3=some .wat:=by unfold ntg;rw[if_neg (by omega),if_pos rfl]
 have e6:ntg w.heap.size b3 b6 b9 b13 b16 b20 b6=some .val:=by unfold ntg;rw[if_neg (by omega),if_neg n1.symm,if_pos rfl]
 have e9:ntg w.heap.size b3 b6 b9 b13 b16 b20 b9=some .lvl:=by unfold ntg;rw[if_neg (by omega),if_neg n2.symm,if_neg n6.symm,if_pos rfl]
 have e13:ntg w.heap.size b3 b6 b9 b13 b16 b20 b13=some .rsn:=by unfold ntg;rw[if_neg (by omega),if_neg n3.symm,if_neg n7.symm,if_neg n10.symm,if_pos rfl]
 have e16:ntg w.heap.size b3 b6 b9 b13 b16 b20 b16=some .wgt:=by unfold ntg;rw[if_neg (by omega),if_neg n4.symm,if_neg n8.symm,if_neg n11.symm,if_neg n13.symm,if_pos rfl]
 have e20:ntg w.heap.size b3 b6 b9 b13 b16 b20 b20=some .phs:=by unfold ntg;rw[if_neg (by omega),if_neg n5.symm,if_neg n9.symm,if_neg n12.symm,if_neg n14.symm,if_neg n15.symm,if_pos rfl]
 have hk:∀b,b<w.heap.size->∀o,(w.alloc o).heap[b]? =w.heap[b]? :=fun b hb o=>Below.heap_alloc w o b hb
 have hsiv:∀(m:Nat) (y:Int),siv (List.replicate m y)=List.replicate m (.int .i64 y):=fun m y=>by simp[siv]
 have hnil:∀(W:World) (T:TypeId) (t:Tg),COwn W (ntg w.heap.size b3 b6 b9 b13 b16 b20) t T (.slice none 0 0) 0 []:=fun W T t=>⟨OwnAt.nil_ _ _ _,fun g hg=>by cases hg⟩
 refine⟨⟨heap_alloc_new w _,e1⟩,⟨(hk b6 l6 _).trans (by rw[h6];simp[S.Sol.new,siv]),e6⟩,⟨(hk b9 l9 _).trans (by rw[h9];simp[S.Sol.new,snv]),e9⟩,⟨(hk b13 l13 _).trans (by rw[h13];simp[S.Sol.new,siv]),e13⟩,⟨(hk b20 l20 _).trans (by rw[h20];simp[S.Sol.new,siv]),e20⟩,
  ⟨_,⟨(hk b16 l16 _).trans h16,e16⟩,by simp,fun f hf=>⟨0,List.eq_of_mem_replicate hf⟩⟩,⟨x,rfl⟩,hnil _ _ _,hnil _ _ _,⟨_,⟨(hk b3 l3 _).trans h3,e3⟩,by simp[S.Sol.new],fun k c hc=>?_⟩,⟨[],hnil _ _ _,rfl,fun k c hc=>by simp[S.Sol.new]at hc⟩,⟨[],hnil _ _ _,rfl,fun k c hc=>by simp[S.Sol.new]at hc⟩,fun b t hb=>?_,by simp[S.Sol.new],by simp[S.Sol.new],by simp[S.Sol.new],by simp[S.Sol.new],by simp[S.Sol.new]⟩
 ·have hc2:(List.replicate (2*n+2) ([]:List Value))[k]? =some c:=by simpa[S.Sol.new,snv]using hc
  rw[List.getElem?_replicate]at hc2;split at hc2
  ·rename_i hlt;obtain rfl:=zAH hc2;exact⟨.slice none 0 0,by rw[List.getElem?_replicate,if_pos hlt],hnil _ _ _⟩
  ·cases hc2
 ·have hs:(w.alloc (.cells #[.slice none 0 0, .slice none 0 0, .slice (some ⟨b3,0,none⟩) (2*n+2) (2*n+2), .slice (some ⟨b6,0,none⟩) (n+1) (n+1), .slice (some ⟨b9,0,none⟩) (n+1) (n+1), .slice (some ⟨b13,0,none⟩) (n+1) (n+1), .slice none 0 0, .slice none 0 0, .int .i64 0, .slice (some ⟨b16,0,none⟩) (n+1) (n+1), .float .f64 x, .slice (some ⟨b20,0,none⟩) (n+1) (n+1)] 104)).heap.size=w.heap.size+1:=by simp
  rw[hs];unfold ntg at hb
  repeat' split at hb
  all_goals first |(cases hb;done) |(subst_vars;omega)
theorem Tryz.sinfoFl:(prog.info? 102).map (fun i=>(i.zero,i.size,i.bytes))=some (some (.float .f64 0),1,8):=by kernel_rfl
theorem bB8(n:Nat)(hn:n<=4000)(W:World):Calls prog 57 #[.int .i64 (n:Int)] W (bEc n W):=by
 have hnI:(n:Int)<=4000:=by omega
 have hn0:(0:Int)<=(n:Int):=by omega
 go_enter func57,ntmps57
 go_upto_region 1 with(fail)
 refine aQn 21 Nw.al Nw.bl Nw.rt Nw.us (Nw.Φ n) ?af (by kernel_rfl) (by kernel_rfl) (by kernel_rfl) (by kernel_rfl) (by kernel_rfl) (by kernel_rfl) ?_ Nw.keep (fun i b k h _=>by cases h) (fun j b h=>by cases h) ?_ ?_;rotate_left
 ·intro X hX ov;simp only[List.take_succ_cons,List.take_zero,Gro.qlist,Nw.al,Nat.reduceAdd,Nat.reduceBEq,Bool.or_true,Bool.or_false,Bool.true_or,Bool.false_or,if_true,if_false,Bool.false_eq_true]
  repeat(go_big_quiet_step (fail))
  refine wpQuiet_nil ?_;rfl
 ·intro i hi hal;rcases Nw.als hal with rfl | rfl | rfl | rfl | rfl | rfl | rfl | rfl
  ·refine⟨_,rfl,fun X act u hX hfa hev K hK=>?_⟩;have e1:act.eval (.tmp 6)= .int .i64 (2* (n:Int)+2):=hev 6 2 (of_decide_eq_true (by kernel_rfl)) rfl (by show(_:Nat) < 28;decide);have hmk:=aBd (P:=prog) 25 37 (.slice none 0 0) 24 underlying25 Tryz.sinfoInts rfl .i64 .i64 (2*n+2) (2* (n:Int)+2) (by omega) (by omega) (by omega) X;refine Gro.makes_run (v:= .slice (some ⟨X.heap.size,0,none⟩) (2*n+2) (2*n+2)) (X':=X.alloc (.cells (Array.replicate (2*n+2) (.slice none 0 0)) 37)) rfl rfl ?_ (hK _ _ ⟨rfl,rfl,rfl,by simp,fun k hk _=>Below.heap_alloc X _ k hk⟩ (Nw.row_new X _ _ _) ?_)
   ·go_simp;rw[show act.tmps[6]?.getD undef= .int .i64 (2* (n:Int)+2)from by simpa[Act.eval]using e1,hmk];rfl
   ·intro r hr;cases hr;exact⟨by simp, .inl (zBJ _)⟩
  ·refine⟨_,rfl,fun X act u hX hfa hev K hK=>?_⟩;have e1:act.eval (.tmp 9)= .int .i64 ((n:Int)+1):=hev 9 5 (of_decide_eq_true (by kernel_rfl)) rfl (by show(_:Nat) < 28;decide);have hmk:=aBd (P:=prog) 37 3 (.int .i64 0) 8 underlying37 Tryz.sinfoInt rfl .i64 .i64 (n+1) ((n:Int)+1) (by omega) (by omega) (by omega) X;refine Gro.makes_run (v:= .slice (some ⟨X.heap.size,0,none⟩) (n+1) (n+1)) (X':=X.alloc (.cells (Array.replicate (n+1) (.int .i64 0)) 3)) rfl rfl ?_ (hK _ _ ⟨rfl,rfl,rfl,by simp,fun k hk _=>Below.heap_alloc X _ k hk⟩ (Nw.row_new X _ _ _) ?_)
   ·go_simp;rw[show act.tmps[9]?.getD undef= .int .i64 ((n:Int)+1)from by simpa[Act.eval]using e1,hmk];rfl
   ·intro r hr;cases hr;exact⟨by simp, .inl (zBJ _)⟩
  ·refine⟨_,rfl,fun X act u hX hfa hev K hK=>?_⟩;have e1:act.eval (.tmp 12)= .int .i64 ((n:Int)+1):=hev 12 8 (of_decide_eq_true (by kernel_rfl)) rfl (by show(_:Nat) < 28;decide);have hmk:=aBd (P:=prog) 37 3 (.int .i64 0) 8 underlying37 Tryz.sinfoInt rfl .i64 .i64 (n+1) ((n:Int)+1) (by omega) (by omega) (by omega) X;refine Gro.makes_run (v:= .slice (some ⟨X.heap.size,0,none⟩) (n+1) (n+1)) (X':=X.alloc (.cells (Array.replicate (n+1) (.int .i64 0)) 3)) rfl rfl ?_ (hK _ _ ⟨rfl,rfl,rfl,by simp,fun k hk _=>Below.heap_alloc X _ k hk⟩ (Nw.row_new X _ _ _) ?_)
   ·go_simp;rw[show act.tmps[12]?.getD undef= .int .i64 ((n:Int)+1)from by simpa[Act.eval]using e1,hmk];rfl
   ·intro r hr;cases hr;exact⟨by simp, .inl (zBJ _)⟩
  ·refine⟨_,rfl,fun X act u hX hfa hev K hK=>?_⟩;refine Gro.makes_run (v:= .slice (some ⟨X.heap.size,0,none⟩) 1 1) (X':=X.alloc (.cells #[.int .i64 (-1)] 3)) rfl rfl ?_ (hK _ _ ⟨rfl,rfl,rfl,by simp,fun k hk _=>Below.heap_alloc X _ k hk⟩ (Nw.row_new X 1 _ _) ?_)
   ·go_simp
   ·intro r hr;cases hr;exact⟨by simp, .inl (zBJ _)⟩
  ·refine⟨_,rfl,fun X act u hX hfa hev K hK=>?_⟩;have e1:act.eval (.tmp 14)=u 10:=hev 14 10 (of_decide_eq_true (by kernel_rfl)) rfl (by show(_:Nat) < 28;decide);have e2:act.eval (.tmp 16)= .int .i64 ((n:Int)+1):=hev 16 12 (of_decide_eq_true (by kernel_rfl)) rfl (by show(_:Nat) < 28;decide);obtain⟨f0,_⟩:=hfa 10 (Nw.edg_of (by kernel_rfl)) rfl;obtain⟨b,eb,hb⟩:RowF X (u 10) 1 (.int .i64 (-1)) 3:=f0;rw[eb]at e1;refine Gro.makes_call (f:=90) (args:= #[.slice (some ⟨b,0,none⟩) 1 1, .int .i64 (((n+1:Nat):Int))]) rfl rfl ?_ (aLv (-1) (n+1) (by omega) (by omega) b X hb) ?_
   ·have e3:((n+1:Nat):Int)=(n:Int)+1:=rfl;rw[e3];go_simp;exact⟨by simpa[Act.eval]using e1,by simpa[Act.eval]using e2⟩
   ·rintro e w' ⟨rfl,h1,h2⟩;refine⟨_,rfl,hK _ _ ⟨h2.os,h2.tape,h2.output,h2.size,fun k hk _=>h2.block k hk⟩ ⟨_,rfl,h1⟩ ?_⟩;intro r hr;cases hr;exact⟨(gA h1).1, .inl (zBJ _)⟩
  ·refine⟨_,rfl,fun X act u hX hfa hev K hK=>?_⟩;have e1:act.eval (.tmp 19)= .int .i64 ((n:Int)+1):=hev 19 15 (of_decide_eq_true (by kernel_rfl)) rfl (by show(_:Nat) < 28;decide);have hmk:=aBd (P:=prog) 101 102 (.float .f64 0) 8 underlying101 Tryz.sinfoFl rfl .i64 .i64 (n+1) ((n:Int)+1) (by omega) (by omega) (by omega) X;refine Gro.makes_run (v:= .slice (some ⟨X.heap.size,0,none⟩) (n+1) (n+1)) (X':=X.alloc (.cells (Array.replicate (n+1) (.float .f64 0)) 102)) rfl rfl ?_ (hK _ _ ⟨rfl,rfl,rfl,by simp,fun k hk _=>Below.heap_alloc X _ k hk⟩ (Nw.row_new X _ _ _) ?_)
   ·go_simp;rw[show act.tmps[19]?.getD undef= .int .i64 ((n:Int)+1)from by simpa[Act.eval]using e1,hmk];rfl
   ·intro r hr;cases hr;exact⟨by simp, .inl (zBJ _)⟩
  ·refine⟨_,rfl,fun X act u hX hfa hev K hK=>?_⟩;refine Gro.makes_run (v:= .slice (some ⟨X.heap.size,0,none⟩) 1 1) (X':=X.alloc (.cells #[.int .i64 (-1)] 3)) rfl rfl ?_ (hK _ _ ⟨rfl,rfl,rfl,by simp,fun k hk _=>Below.heap_alloc X _ k hk⟩ (Nw.row_new X 1 _ _) ?_)
   ·go_simp
   ·intro r hr;cases hr;exact⟨by simp, .inl (zBJ _)⟩
  ·refine⟨_,rfl,fun X act u hX hfa hev K hK=>?_⟩;have e1:act.eval (.tmp 21)=u 17:=hev 21 17 (of_decide_eq_true (by kernel_rfl)) rfl (by show(_:Nat) < 28;decide);have e2:act.eval (.tmp 23)= .int .i64 ((n:Int)+1):=hev 23 19 (of_decide_eq_true (by kernel_rfl)) rfl (by show(_:Nat) < 28;decide);obtain⟨f0,_⟩:=hfa 17 (Nw.edg_of (by kernel_rfl)) rfl;obtain⟨b,eb,hb⟩:RowF X (u 17) 1 (.int .i64 (-1)) 3:=f0;rw[eb]at e1;refine Gro.makes_call (f:=90) (args:= #[.slice (some ⟨b,0,none⟩) 1 1, .int .i64 (((n+1:Nat):Int))]) rfl rfl ?_ (aLv (-1) (n+1) (by omega) (by omega) b X hb) ?_
   ·have e3:((n+1:Nat):Int)=(n:Int)+1:=rfl;rw[e3];go_simp;exact⟨by simpa[Act.eval]using e1,by simpa[Act.eval]using e2⟩
   ·rintro e w' ⟨rfl,h1,h2⟩;refine⟨_,rfl,hK _ _ ⟨h2.os,h2.tape,h2.output,h2.size,fun k hk _=>h2.block k hk⟩ ⟨_,rfl,h1⟩ ?_⟩;intro r hr;cases hr;exact⟨(gA h1).1, .inl (zBJ _)⟩
 ·intro g w hb hfa hlt hne;obtain⟨b3,q3,r3⟩:RowF w (g 3) (2*n+2) (.slice none 0 0) 37:=hfa 3 (by decide) rfl (fun j e=>by cases e);obtain⟨b6,q6,r6⟩:RowF w (g 6) (n+1) (.int .i64 0) 3:=hfa 6 (by decide) rfl (fun j e=>by cases e);obtain⟨b9,q9,r9⟩:RowF w (g 9) (n+1) (.int .i64 0) 3:=hfa 9 (by decide) rfl (fun j e=>by cases e);obtain⟨b13,q13,r13⟩:RowF w (g 13) (n+1) (.int .i64 (-1)) 3:=hfa 13 (by decide) rfl (fun j e=>by cases e);obtain⟨b16,q16,r16⟩:RowF w (g 16) (n+1) (.float .f64 0) 102:=hfa 16 (by decide) rfl (fun j e=>by cases e);obtain⟨b20,q20,r20⟩:RowF w (g 20) (n+1) (.int .i64 (-1)) 3:=hfa 20 (by decide) rfl (fun j e=>by cases e);have hge:∀k b N,k<21->Nw.al k=true->g k= .slice (some ⟨b,0,none⟩) N N->W.heap.size<=b:=fun k b N hk ha e=>(hlt k hk ha b (by rw[e];rfl)).1
  have hdi:∀k k' b b' N N',k<21->k'<21->Nw.al k=true->Nw.al k'=true->k≠k'->g k= .slice (some ⟨b,0,none⟩) N N->g k'= .slice (some ⟨b',0,none⟩) N' N'->b≠b':=fun k k' b b' N N' hk hk' ha ha' hkk e e'=>by
   rintro rfl;exact hne k k' hk hk' ha ha' hkk b (by rw[e];rfl) (by rw[e'];rfl)
  have HN:=kH (bEd (B0:=W.heap.size) 4607182418800017408 r3 r6 r9 r13 r16 r20 (hge 3 _ _ (by decide) rfl q3) (hge 6 _ _ (by decide) rfl q6) (hge 9 _ _ (by decide) rfl q9) (hge 13 _ _ (by decide) rfl q13) (hge 16 _ _ (by decide) rfl q16) (hge 20 _ _ (by decide) rfl q20)
   (hdi 3 6 _ _ _ _ (by decide) (by decide) rfl rfl (by decide) q3 q6) (hdi 3 9 _ _ _ _ (by decide) (by decide) rfl rfl (by decide) q3 q9) (hdi 3 13 _ _ _ _ (by decide) (by decide) rfl rfl (by decide) q3 q13) (hdi 3 16 _ _ _ _ (by decide) (by decide) rfl rfl (by decide) q3 q16) (hdi 3 20 _ _ _ _ (by decide) (by decide) rfl rfl (by decide) q3 q20)
   (hdi 6 9 _ _ _ _ (by decide) (by decide) rfl rfl (by decide) q6 q9) (hdi 6 13 _ _ _ _ (by decide) (by decide) rfl rfl (by decide) q6 q13) (hdi 6 16 _ _ _ _ (by decide) (by decide) rfl rfl (by decide) q6 q16) (hdi 6 20 _ _ _ _ (by decide) (by decide) rfl rfl (by decide) q6 q20)
   (hdi 9 13 _ _ _ _ (by decide) (by decide) rfl rfl (by decide) q9 q13) (hdi 9 16 _ _ _ _ (by decide) (by decide) rfl rfl (by decide) q9 q16) (hdi 9 20 _ _ _ _ (by decide) (by decide) rfl rfl (by decide) q9 q20) (hdi 13 16 _ _ _ _ (by decide) (by decide) rfl rfl (by decide) q13 q16) (hdi 13 20 _ _ _ _ (by decide) (by decide) rfl rfl (by decide) q13 q20) (hdi 16 20 _ _ _ _ (by decide) (by decide) rfl rfl (by decide) q16 q20))
  have HB:=kH hb;simp only[List.range,List.range.loop,List.foldl_cons,List.foldl_nil,Nw.al,Nat.reduceBEq,Bool.or_true,Bool.or_false,Bool.true_or,Bool.false_or,if_true,if_false,Bool.false_eq_true];rw[q3,q6,q9,q13,q16,q20];clear hfa hlt hne hge hdi hb q3 q6 q9 q13 q16 q20 r3 r6 r9 r13 r16 r20;simp only[List.drop_succ_cons,List.drop_zero];simp only[Act.put,Rg.dst];go_wp2;go_ret;exact⟨_,_,_,rfl,HN.out,HB.out.trans ((Below.refl _ _).alloc HB.out.size _)⟩
theorem aOy(n l:Int)(w:World)(hn:0<=n)(hm:n<=4000):
 Calls prog 89 #[.int .i64 n, .int .i64 l] w fun e w'=>e= .returned (.bool (S.isLit n l))/\w=w':=by
 by_cases h3:l=0
 ·subst h3
  go_enter func89,ntmps89
  go_wp2;go_ret;exact⟨aA5 (by simp[S.isLit]),rfl⟩
 ·have hb:(l != 0)=true:=by simpa using h3
  have hb2:(l == 0)=false:=by simpa using h3
  by_cases h1: -n<=l
  ·have d1:decide (-n<=l)=true:=zBO h1
   by_cases h2:l<=n
   ·have d2:decide (l<=n)=true:=zBO h2
    go_enter func89,ntmps89
    go_wp2;go_ret;exact⟨aA5 (by simp[S.isLit,h1,h2,h3]),rfl⟩
   ·have d2:decide (l<=n)=false:=zBP h2
    go_enter func89,ntmps89
    go_wp2;go_ret;exact⟨aA5 (by simp[S.isLit];intros;omega),rfl⟩
  ·have d1:decide (-n<=l)=false:=zBP h1
   go_enter func89,ntmps89
   go_wp2;go_ret;exact⟨aA5 (by simp[S.isLit];intros;omega),rfl⟩
theorem aZw(n x:Int)(B:Nat)(w:World)(hn:0<=n)(hm:n<=4000)(hc:w.cell? ⟨B,0,none⟩=some (.int .i64 n)):
 Calls prog 88 #[.int .i64 x, .pointer (some ⟨B,0,none⟩)] w fun e w'=>e= .returned (.bool (!S.isLit n x))/\w=w':=by
 have Hcon:=kH (aOy n x w hn hm)
 go_enter func88,ntmps88
 go_wp2_with fail
 refine Hcon.out.mono ?_;rintro e w' ⟨rfl,rfl⟩;go_wp2;go_ret;exact⟨rfl,rfl⟩
theorem aZx(p:Int->Bool)(B:Nat)(A:Option Addr)(m c:Nat)(xs:List Int)(w:World)(hA:SlAt (IntR .i64) w A m xs)
 (hp:∀x∈xs,∀W,Dr w W->Calls prog 88 #[.int .i64 x, .pointer (some ⟨B,0,none⟩)] W fun e w'=>e= .returned (.bool (p x))/\Dr W w'):
 Calls prog 130 #[.slice A m c, .func (.func 88) #[] #[.pointer (some ⟨B,0,none⟩)]] w fun e w'=>∃r:Int,e= .returned (.int .i64 r)/\decide (0<=r)=xs.any p/\-1<=r/\Dr w w':=by
 have hl:=hA.le;have HA:=kH hA;clear hA;have HP:=kH hp;clear hp
 go_enter func130,ntmps130
 go_wp2
 go_loopw [8] (fun i wr=>∃k:Nat,k<=m/\i= .int .i64 k/\Dr w wr/\Hid ((xs.take k).any p=false)) (fun i _=>m- (intOf i).toNat)
 case atStart=>exact⟨0,zBL _,rfl,Dr.refl _,rfl⟩
 case round=>
  obtain⟨k,hk,rfl,hdr,HT⟩:=hrel
  by_cases hlt:k<m
  ·obtain⟨x,b,off,u,hx,rfl,_,h1,rfl⟩:=(HA.out.dr (aAd _) hdr).at_ hlt;have con:=HP.out x (zAC hx) wr hdr;have Hx:=kH hx;clear hx;cases hpx:p x
   ·rw[hpx]at con;have Hcon:=kH con;clear con;have Hpx:=kH hpx;clear hpx
    go_wp2_with fail
    refine Hcon.out.mono ?_;rintro e w' ⟨rfl,hd2⟩;go_wp2;go_roundw
    case rel=>exact⟨k+1,by omega,by go_num,hdr.trans hd2,aH9 Hx.out HT.out Hpx.out⟩
    case measure=>simp[intOf];omega
   ·rw[hpx]at con;have Hcon:=kH con;clear con;have Hpx:=kH hpx;clear hpx
    go_wp2_with fail
    refine Hcon.out.mono ?_;rintro e w' ⟨rfl,hd2⟩;go_wp2;go_ret;exact⟨_,rfl,by rw[aJ4 Hx.out Hpx.out];simp,by omega,hdr.trans hd2⟩
  ·go_wp2;go_ret;have h3:=HT.out;rw[aB0 HA.out.len (by omega)]at h3;exact⟨_,rfl,by rw[h3];rfl,by omega,hdr⟩
theorem aZy(p:Int->Bool)(B:Nat)(A:Option Addr)(m c:Nat)(xs:List Int)(w:World)(hA:SlAt (IntR .i64) w A m xs)
 (hp:∀x∈xs,∀W,Dr w W->Calls prog 88 #[.int .i64 x, .pointer (some ⟨B,0,none⟩)] W fun e w'=>e= .returned (.bool (p x))/\Dr W w'):
 Calls prog 87 #[.slice A m c, .func (.func 88) #[] #[.pointer (some ⟨B,0,none⟩)]] w fun e w'=>e= .returned (.bool (xs.any p))/\Dr w w':=by
 have Hcon:=kH (aZx p B A m c xs w hA hp);clear hA hp
 go_enter func87,ntmps87
 go_wp2_with fail
 refine Hcon.out.mono ?_;rintro e w' ⟨r,rfl,hr,hr1,hd⟩;have Hr:=kH hr;clear hr;go_wp2;go_ret;exact⟨aA5 (by rw[<-Hr.out]),hd⟩
theorem aQo(n:Int)(A:Option Addr)(m c:Nat)(xs:List (List Int))(w:World)(hA:SlAt (SlR (IntR .i64)) w A m xs):
 Calls prog 56 #[.int .i64 n, .slice A m c] w fun e w'=>e= .returned (.int .i64 (S.aAe n xs))/\Below w.heap.size w w':=by
 have hl:=hA.le;have HA:=kH hA;clear hA
 by_cases h0:n<0
 ·go_enter func56,ntmps56
  go_wp2;go_ret;exact⟨aBb (by simp[S.aAe,h0]),al0⟩
 by_cases h1:4000<n
 ·go_enter func56,ntmps56
  go_wp2;go_ret;exact⟨aBb (by simp[S.aAe,h1]),al0⟩
 by_cases h2:24000<m
 ·go_enter func56,ntmps56
  go_wp2;go_ret;exact⟨aBb (by have:=HA.out.len;simp[S.aAe,this,h2]),al0⟩
 go_enter func56,ntmps56
 go_wp2
 go_loopw [20] (fun i wr=>∃k:Nat,k<=m/\i= .int .i64 k/\Dr (w.alloc (.cells #[.int .i64 n] 3)) wr/\Hid ((xs.take k).all (S.isClause n)=true)) (fun i _=>m- (intOf i).toNat)
 case atStart=>exact⟨0,zBL _,rfl,Dr.refl _,rfl⟩
 case round=>
  obtain⟨k,hk,rfl,hdr,HT⟩:=hrel;have hbw:Below w.heap.size w wr:=(al0).dr hdr
  by_cases hlt:k<m
  ·obtain⟨x,b,off,u,hx,rfl,_,hcl,A1,c1,rfl,s1⟩:=(HA.out.below (aC9 (aAd _)) hbw).at_ hlt;have con:=aZy (fun x=>!S.isLit n x) w.heap.size A1 x.length c1 x wr s1 (fun y _ W hW=>
    (aZw n y w.heap.size W (by omega) (by omega) (by
     have h3:=(hdr.trans hW).below (w.heap.size+1);rw[h3.cell (p:=⟨w.heap.size,0,none⟩) (by simp)];exact aIa w _ _)).mono fun e w' ⟨he,hw⟩=>⟨he,by rw[hw];exact Dr.refl _⟩)
   rw[aJp]at con;clear s1;have Hx:=kH hx;clear hx;cases hp:S.isClause n x
   ·rw[hp]at con;have Hcon:=kH con;clear con;have Hp:=kH hp;clear hp
    go_wp2_with fail
    refine Hcon.out.mono ?_;rintro e w' ⟨rfl,hd⟩;go_wp2;go_ret;refine⟨aBb ?_,hbw.dr hd⟩;have:=HA.out.len;rw[S.aAe,if_neg (by omega),if_neg];rw[aEy Hx.out Hp.out];simp
   ·rw[hp]at con;have Hcon:=kH con;clear con;have Hp:=kH hp;clear hp
    go_wp2_with fail
    refine Hcon.out.mono ?_;rintro e w' ⟨rfl,hd⟩;go_wp2;go_roundw
    case rel=>exact⟨k+1,by omega,by go_num,hdr.trans hd,aEj Hx.out HT.out Hp.out⟩
    case measure=>simp[intOf];omega
  ·go_wp2;go_ret;refine⟨aBb ?_,hbw⟩;have:=HA.out.len;rw[S.aAe,if_neg (by omega),if_pos (aFm HA.out.len (by omega) HT.out)]
end
end Go.Proofs.YtchdbhggbdcapaaGreat
