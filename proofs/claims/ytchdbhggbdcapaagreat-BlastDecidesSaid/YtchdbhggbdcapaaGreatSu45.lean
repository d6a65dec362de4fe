/- Part. -/
import Derived.Test.YtchdbhggbdcapaaGreatSuLX
import Derived.Test.YtchdbhggbdcapaaGreatSu43
import Derived.Test.YtchdbhggbdcapaaGreatSu28
import Derived.Test.YtchdbhggbdcapaaGreatSu44
import Derived.Test.YtchdbhggbdcapaaGreatSu36
set_option linter.unusedVariables false
set_option linter.unusedSimpArgs false
set_option maxRecDepth 100000
set_option maxHeartbeats 16000000
namespace Go.Proofs.YtchdbhggbdcapaaGreat
open _root_.Go.Proofs.Tryz
section
open Go.RowKit Go.MapKept Go.Maps Go.WideMaps
namespace C
def evN(t:List T.Nd)(m:List Bool)(v i:Nat):Nat:=wv (inB (total (T.aAa t))) (modE m) (((aAj (T.aAa t) 0).getD v []).take i)
theorem aS5(t:List T.Nd)(m:List Bool)(v:Nat):evN t m v 0=0:=by unfold evN;simp[wv]
theorem bFh(t:List T.Nd)(m:List Bool)(v i:Nat):evN t m v i<2 ^ i:=by
 unfold evN;refine zAL (wv_lt _ _ _) (zAJ (by decide) ?_);rw[zAZ];omega
theorem bCn{t:List T.Nd}(m:List Bool){v i:Nat}(hv:v<(T.aAa t).length)(hi:i<((aAj (T.aAa t) 0).getD v []).length):
 ∃k:Nat,((aAj (T.aAa t) 0).getD v []).getD i 0=((k+1:Nat):Int)/\k<total (T.aAa t)+1/\evN t m v (i+1)=evN t m v i+(if m.getD k false=true then 2 ^ i else 0):=by
 have h1:=aC6 (T.aAa t) 0 v hv;rw[zBH]at h1;have h2:=aCp (T.aAa t) v hv;obtain⟨K,hK⟩:∃K,total ((T.aAa t).take v)=K:=⟨_,rfl⟩;obtain⟨w,hw⟩:∃w,((T.aAa t).getD v 0).toNat=w:=⟨_,rfl⟩;rw[hK,hw]at h1 h2;have hl:((aAj (T.aAa t) 0).getD v []).length=w:=by rw[h1];simp[aAz]
 have hg:((aAj (T.aAa t) 0).getD v []).getD i 0=((K+2+i:Nat):Int):=by
  rw[h1];unfold aAz;rw[List.getD,zAW,List.getElem?_range (by omega)];rfl
 refine⟨K+1+i,by rw[hg];omega,by omega,?_⟩;unfold evN;rw[aG6 _ _ _ hi]
 congr 1
 unfold bt;rw[hg,aId (by omega) (by omega)];unfold modE;rw[show K+2+i-1=K+1+i from by omega];cases m.getD (K+1+i) false <;> simp[bit]
theorem bCo{t:List T.Nd}(m:List Bool){v:Nat}(hv:v<(T.aAa t).length):(((evN t m v ((aAj (T.aAa t) 0).getD v []).length:Nat):Int))=(envOf t (modE m)).getD v 0:=by
 unfold evN envOf;rw[List.take_length];have hl:v<(aAj (T.aAa t) 0).length:=by rw[aCc];exact hv
 simp only[List.getD,zAW,zAB hl,Option.map_some,Option.getD_some]
theorem aZ8{t:List T.Nd}(ht:Tm t)(m:List Bool){v:Nat}(hv:v<(T.aAa t).length):((aAj (T.aAa t) 0).getD v []).length<=32:=by
 have h1:=aC6 (T.aAa t) 0 v hv;rw[h1];have h2:=aCx ht (zAB hv);have h3:(T.aAa t).getD v 0=(T.aAa t)[v]:=by rw[List.getD,zAB hv];rfl
 rw[h3];simp only[aAz,zAY,List.length_range];omega
def efN(t:List T.Nd)(m:List Bool)(j i:Nat):List Int:=
 (List.range 4).map fun v=>if v<j then((evN t m v ((aAj (T.aAa t) 0).getD v []).length:Nat):Int)else if v=j then((evN t m v i:Nat):Int)else 0
theorem aIh(t:List T.Nd)(m:List Bool)(j i:Nat):(efN t m j i).length=4:=by simp[efN]
theorem aIi(t:List T.Nd)(m:List Bool){j v:Nat}(i:Nat)(hv:v<4):(efN t m j i)[v]? =some (if v<j then((evN t m v ((aAj (T.aAa t) 0).getD v []).length:Nat):Int)else if v=j then((evN t m v i:Nat):Int)else 0):=by
 unfold efN;rw[zAW,List.getElem?_range hv];rfl
theorem aVz(t:List T.Nd)(m:List Bool){j:Nat}(i:Nat)(hj:j<4):(efN t m j i).set j ((evN t m j (i+1):Nat):Int)=efN t m j (i+1):=by
 apply List.ext_getElem?;intro v;rcases Nat.lt_or_ge v 4 with hv | hv
 ·rw[List.getElem?_set,aIi _ _ _ hv,aIi _ _ _ hv]
  by_cases e:j=v
  ·subst e;rw[if_pos rfl,if_pos (by rw[aIh];exact hj),if_neg (by omega),if_pos rfl]
  ·rw[if_neg e]
   by_cases h:v<j
   ·rw[if_pos h,if_pos h]
   ·rw[if_neg h,if_neg h,if_neg (fun q=>e q.symm),if_neg (fun q=>e q.symm)]
 ·rw[zAN (by rw[zBC,aIh];exact hv),zAN (by rw[aIh];exact hv)]
theorem bCp(t:List T.Nd)(m:List Bool){j:Nat}(i:Nat)(hj:j<4):(efN t m j i).set j ((evN t m j i:Nat):Int)=efN t m j i:=by
 apply List.ext_getElem?;intro v;rw[List.getElem?_set]
 by_cases e:j=v
 ·subst e;rw[if_pos rfl,if_pos (by rw[aIh];exact hj),aIi _ _ _ hj,if_neg (by omega),if_pos rfl]
 ·rw[if_neg e]
theorem bCq(t:List T.Nd)(m:List Bool)(j:Nat):efN t m j ((aAj (T.aAa t) 0).getD j []).length=efN t m (j+1) 0:=by
 unfold efN;apply List.map_congr_left;intro v _
 by_cases h:v<j
 ·rw[if_pos h,if_pos (by omega)]
 ·rw[if_neg h]
  by_cases h2:v=j
  ·subst h2;rw[if_pos rfl,if_pos (by omega)]
  ·rw[if_neg h2,if_neg (by omega)]
   by_cases h3:v=j+1
   ·subst h3;rw[if_pos rfl,aS5];rfl
   ·rw[if_neg h3]
theorem bCr(t:List T.Nd)(m:List Bool):efN t m 0 0= [0,0,0,0]:=by
 unfold efN;simp[List.range_succ,aS5]
theorem bCs{t:List T.Nd}(m:List Bool)(hl:(T.aAa t).length=4):efN t m 4 0=envOf t (modE m):=by
 apply List.ext_getElem?;intro v;rcases Nat.lt_or_ge v 4 with hv | hv
 ·rw[aIi _ _ _ hv,if_pos hv,bCo m (by omega)];have:v<(envOf t (modE m)).length:=by rw[aFd];omega
  rw[List.getD,zAB this];rfl
 ·rw[zAN (by rw[aIh];exact hv),zAN (by rw[aFd];omega)]
end C
theorem bFi(a b c d:Value)(w:World):(Instr.index 70 (.agg #[a,b,c,d]) (.int .i64 (((0:Nat):Int)))).run prog w= .ok a w:=by kernel_rfl
theorem bFj(a b c d:Value)(w:World):(Instr.index 70 (.agg #[a,b,c,d]) (.int .i64 (((1:Nat):Int)))).run prog w= .ok b w:=by kernel_rfl
theorem bFk(a b c d:Value)(w:World):(Instr.index 70 (.agg #[a,b,c,d]) (.int .i64 (((2:Nat):Int)))).run prog w= .ok c w:=by kernel_rfl
theorem bFl(a b c d:Value)(w:World):(Instr.index 70 (.agg #[a,b,c,d]) (.int .i64 (((3:Nat):Int)))).run prog w= .ok d w:=by kernel_rfl
theorem bCt{ex i:Nat}(he:ex<2 ^ i)(hi:i<=31):bits .or .u32 (ex:Int) (2 ^ i % 4294967296)=((ex+2 ^ i:Nat):Int):=by
 have h1:2 ^ i<=2 ^ 31:=zAJ (by decide) hi;have h2:(2:Nat) ^ 31<2 ^ 32:=by decide
 have h3:((2:Int) ^ i % 4294967296)=((2 ^ i:Nat):Int):=by
  have h4:(2:Int) ^ i=((2 ^ i:Nat):Int):=by simp
  have h5:(2:Nat) ^ 31=2147483648:=by decide
  rw[h4];omega
 rw[h3,(bits_nat .u32 32 (by decide) (fun n h0 h1=>by rw[IntKind.wrap_u32];omega) ex (2 ^ i) (by omega) (by omega)).2];have h6:=Nat.two_pow_add_eq_or_of_lt he 1;rw[Nat.mul_one]at h6;rw[Nat.or_comm,<-h6,Nat.add_comm]
def FindE(t:List T.Nd)(W:World)(e:Ending)(w':World):Prop:=
 Below W.heap.size W w'/\((aAb t≠0/\e= .returned (.tuple #[.slice none 0 0, .bool false, .int .i64 (aAb t)]))\/
  (aAb t=0/\C.build t=none/\e= .returned (.tuple #[.slice none 0 0, .bool false, .int .i64 3]))\/
  (aAb t=0/\∃c,C.build t=some c/\C.Bo c.b/\
   ((∃A cap model,model.length=c.b.n/\(∀k∈C.aAl c 1,S.sat model k=true)/\e= .returned (.tuple #[.slice A 4 cap, .bool true, .int .i64 0])/\SlAt (IntR .u32) w' A 4 (C.envOf t (C.modE model)))\/
    (∃l,S.aBg (C.aAl c 1) l=none/\(∀k∈l,S.isClause c.b.n k=true)/\e= .returned (.tuple #[.slice none 0 0, .bool false, .int .i64 0]))\/
    (¬S.aA2 (C.aAl c 1) []/\(∃k∈C.aAl c 1,∀l∈k,¬S.Der (C.aAl c 1) [] l)/\e= .returned (.tuple #[.slice none 0 0, .bool false, .int .i64 3])))))
theorem aS6(t:List T.Nd)(n ct:Nat)(At:Option Addr)(W:World)(hT:StAt 5 NdR W At n t):
 Calls prog 29 #[.slice At n ct] W (FindE t W):=by
 have HW:=kH (aMs t n ct At W 1 (.inl rfl) hT);have Hi:=kH (aBq hT);clear hT;have Hcm:=kH (show∀(args:Array Value) (X:World),Sem.run prog (callFunc 36 args) X= .ok (.enter 36 args) X from fun args X=>by simp[go_sem,callFunc,Tryz.f36])
 go_enter func29,ntmps29
 go_wp2_with fail
 refine HW.out.mono ?_;rintro e w1 ⟨hb1,⟨hc,rfl⟩ |⟨hc,hbn,rfl⟩ |⟨hc,c,Cb,Bb,Wb,tg,words,Ac,cc,hbs,hB,rfl,hI⟩⟩
 ·have Hf:=kH (And.intro hb1 hc);have hq:(aAb t == 0)=false:=by simpa using hc
  have hq2:(aAb t != 0)=true:=by simpa using hc
  clear hb1 hc HW;go_wp2;refine bodyPost_ret (aBo rfl _ _ _) rfl ?_;exact⟨Hf.out.1, .inl ⟨Hf.out.2,rfl⟩⟩
 ·have Hf:=kH (And.intro hb1 (And.intro hc hbn));clear hb1 hc hbn HW;go_wp2;refine bodyPost_ret (aBo rfl _ _ _) rfl ?_;exact⟨Hf.out.1, .inr (.inl ⟨Hf.out.2.1,Hf.out.2.2,rfl⟩)⟩
 ·have HSv:=kH (aVy (cap:=cc) hc Hi.out hbs hB (.inl rfl) (W:=w1.drew) hI.r);have hsy:=aFi hc Hi.out hbs;have htm:=(C.tm_of (aBa hc).1 Hi.out).1;have hwl:=T.aA9 t;obtain⟨n0,hn0⟩:∃m,c.b.n=m:=⟨_,rfl⟩;obtain⟨m0,hm0⟩:∃m,c.b.cls.length=m:=⟨_,rfl⟩;have q0:=hI.ct.cb.2.2;have q1:=hI.nn;have q2:=hI.l;have hnb:n0<=4000:=by rw[<-hn0];exact hB.n
  have htot:C.total (T.aAa t)+1<=n0:=by
   have:=hsy.inp.n;rw[hn0]at this;exact this
  have hct:=hI.ct;rw[hsy.vars]at hct;rw[hn0]at q1 HSv;rw[hm0]at q2 HSv;have HS0:=kH (show(fun Y:World=>Y.cell? ⟨Cb,0,none⟩=some (.pointer (some ⟨Bb,0,none⟩))/\Y.cell? ⟨Bb,0,none⟩=some (.int .i64 (n0:Int))/\Y.cell? ⟨Bb,1,none⟩=some (.slice Ac (m0+1) cc)) w1.drew from⟨q0,q1,q2⟩);have HBl:=kH (And.intro hI.ct.ltC hI.bl);have Hb1:=kH (And.intro hb1 (And.intro hc (And.intro hbs (And.intro hB hn0))));have Hct:=kH (And.intro hct (And.intro htm (And.intro hwl htot)));clear hb1 hc hbs hB hI q0 q1 q2 hm0 hn0 HW hsy htm hwl hct htot
  go_upto_region 4 with(fail)
  refine wp_region_held_drew (S:=fun Y:World=>Y.cell? ⟨Cb,0,none⟩=some (.pointer (some ⟨Bb,0,none⟩))/\Y.cell? ⟨Bb,0,none⟩=some (.int .i64 (n0:Int))/\Y.cell? ⟨Bb,1,none⟩=some (.slice Ac (m0+1) cc)) (by kernel_rfl) (HS0.out) (fun hHh=>?_);refine tK 0 ?_;refine tK 1 ?_;refine tK 2 ?_;refine tK 3 ?_;refine tK 4 ?_;refine tK 5 ?_;refine tK 6 ?_;refine tK 7 ?_;refine tK 8 ?_;refine tK 9 ?_;refine tK 10 ?_;refine tK 11 ?_;refine tK 12 ?_;refine tK 13 ?_;refine rd 14 (fun KK hKK=>?_);clear hHh;refine aI3 rfl 36 Hcm.out (.tmp 30) (.tmp 37) _ _ rfl (.int .i64 (n0:Int)) (.slice Ac (m0+1) cc) (by go_simp) (by go_simp) HSv.out ?_;rintro e w2 ⟨hb2,⟨A2,c2,model,rfl,r1,r2,r3⟩ |⟨A2,c2,l,rfl,r1,r2,r3,r4⟩ |⟨rfl,r1,r2⟩⟩
  ·refine⟨_,rfl,?_⟩;have Hk:=kH (And.intro (Hb1.out.1.drew.trans (hb2.mono Hb1.out.1.size)) (And.intro (Hct.out.1.bel ((Below.refl w1.heap.size w1).drew.trans hb2)) (And.intro r1 (And.intro r2 r3))));have HS2:=kH (show(fun Y:World=>Y.cell? ⟨Cb,0,none⟩=some (.pointer (some ⟨Bb,0,none⟩))/\Y.cell? ⟨Bb,0,none⟩=some (.int .i64 (n0:Int))/\Y.cell? ⟨Bb,1,none⟩=some (.slice Ac (m0+1) cc)) w2 from⟨(hb2.cell (p:=⟨Cb,0,none⟩) HBl.out.1).trans HS0.out.1,(hb2.cell (p:=⟨Bb,0,none⟩) HBl.out.2).trans HS0.out.2.1,(hb2.cell (p:=⟨Bb,1,none⟩) HBl.out.2).trans HS0.out.2.2⟩);clear hb2 r1 r2 r3;refine hKK.out _ _ HS2.out (fun hHh=>?_);clear hKK KK
   try simp only[Act.put,yL]
   refine tK 15 ?_;refine tK 16 ?_;refine tK 17 ?_;refine tK 18 ?_;refine tK 19 ?_;refine tK 20 ?_;refine tK 21 ?_;refine tK 22 ?_;refine tK 23 ?_;refine wpAnyH_done (by kernel_rfl) ?_ _;have hmk:=fun(W':World)=>aBd (P:=prog) 42 45 (.int .u32 0) 4 underlying42 aC1 rfl .i64 .i64 4 4 (by omega) (by omega) (by omega) W'
   clear hHh
   go_upto_region 8 with(fail)
   clear hmk;obtain⟨g,hg⟩:∃g,w2.heap.size=g:=⟨_,rfl⟩;obtain⟨w3,hw3⟩:∃w3,w3=w2.alloc (Obj.cells (Array.replicate 4 (Value.int IntKind.u32 0)) 45):=⟨_,rfl⟩;rw[<-hw3,hg];have hb3:Below w2.heap.size w2 w3:=by rw[hw3];exact al0
   have hr3:w3.heap[g]? =some (.cells ((C.efN t model 0 0).map (Value.int .u32)).toArray 45 (0,0)):=by rw[hw3,<-hg,heap_alloc_new,C.bCr];rfl
   have hCl:Cb<w2.heap.size:=Hk.out.2.1.ltC;have hvl:(C.aAj (T.aAa t) 0).length=4:=by rw[C.aCc];exact Hct.out.2.2.1
   have hV:∀v,v<4->∃A c,w2.cell? ⟨Cb,1+v,none⟩=some (.slice A ((C.aAj (T.aAa t) 0).getD v []).length c)/\WdAt w2 tg A c ((C.aAj (T.aAa t) 0).getD v []):=fun v hv=>Hk.out.2.1.var (by rw[List.getD,zAB (by omega)];rfl)
   obtain⟨A0,c0,e0,d0⟩:=hV 0 (by omega);obtain⟨A1,c1,e1,d1⟩:=hV 1 (by omega);obtain⟨A2',c2',e2,d2⟩:=hV 2 (by omega);obtain⟨A3,c3,e3,d3⟩:=hV 3 (by omega);obtain⟨L0,hL0⟩:∃L,((C.aAj (T.aAa t) 0).getD 0 []).length=L:=⟨_,rfl⟩;obtain⟨L1,hL1⟩:∃L,((C.aAj (T.aAa t) 0).getD 1 []).length=L:=⟨_,rfl⟩;obtain⟨L2,hL2⟩:∃L,((C.aAj (T.aAa t) 0).getD 2 []).length=L:=⟨_,rfl⟩;obtain⟨L3,hL3⟩:∃L,((C.aAj (T.aAa t) 0).getD 3 []).length=L:=⟨_,rfl⟩;rw[hL0]at e0;rw[hL1]at e1;rw[hL2]at e2;rw[hL3]at e3;have e0:w3.cell? ⟨Cb,1,none⟩=_:=(hb3.cell (p:=⟨Cb,1,none⟩) hCl).trans e0;have e1:w3.cell? ⟨Cb,2,none⟩=_:=(hb3.cell (p:=⟨Cb,2,none⟩) hCl).trans e1;have e2:w3.cell? ⟨Cb,3,none⟩=_:=(hb3.cell (p:=⟨Cb,3,none⟩) hCl).trans e2;have e3:w3.cell? ⟨Cb,4,none⟩=_:=(hb3.cell (p:=⟨Cb,4,none⟩) hCl).trans e3;obtain⟨ag,hag⟩:∃ag:Array Value,ag= #[.slice A0 L0 c0, .slice A1 L1 c1, .slice A2' L2 c2', .slice A3 L3 c3]:=⟨_,rfl⟩;have HV:=kH (show∀v:Nat,v<4->∃A c,(∀X,(Instr.index 70 (.agg ag) (.int .i64 (v:Int))).run prog X= .ok (.slice A ((C.aAj (T.aAa t) 0).getD v []).length c) X)/\WdAt w2 tg A c ((C.aAj (T.aAa t) 0).getD v [])from by
    intro v hv;rcases(show v=0\/v=1\/v=2\/v=3 by omega)with rfl | rfl | rfl | rfl
    ·exact⟨A0,c0,fun X=>by rw[hag,hL0];exact bFi _ _ _ _ X,d0⟩
    ·exact⟨A1,c1,fun X=>by rw[hag,hL1];exact bFj _ _ _ _ X,d1⟩
    ·exact⟨A2',c2',fun X=>by rw[hag,hL2];exact bFk _ _ _ _ X,d2⟩
    ·exact⟨A3,c3,fun X=>by rw[hag,hL3];exact bFl _ _ _ _ X,d3⟩)
   have H3:=kH (And.intro hb3 (And.intro hr3 (And.intro hg hvl)));clear hb3 hr3 hCl hvl hV d0 d1 d2 d3 hL0 hL1 hL2 hL3 hw3
   go_upto_region 9 with(fail)
   rw[<-hag];clear e0 e1 e2 e3 hag
   go_loopw [55] (fun s55 wr=>∃v:Nat,v<=4/\s55= .int .i64 (v:Int)/\Hid (Below w2.heap.size w2 wr/\wr.heap[g]? =some (.cells ((C.efN t model v 0).map (Value.int .u32)).toArray 45 (0,0)))) (fun s _=>4- (intOf s).toNat)
   case atStart=>exact⟨0,by omega,rfl,kH ⟨H3.out.1,H3.out.2.1⟩⟩
   case round=>
    obtain⟨v,hv4,rfl,HL⟩:=hrel
    by_cases hlt:v<4
    ·obtain⟨Av,cv,hix,hwd⟩:=HV.out v hlt;have hsm:=C.aZ8 Hct.out.2.1 model (v:=v) (by rw[Hct.out.2.2.1];exact hlt);obtain⟨L,hL⟩:∃L,((C.aAj (T.aAa t) 0).getD v []).length=L:=⟨_,rfl⟩;rw[hL]at hix hsm;have HwL:=kH (And.intro hwd (And.intro hL hsm));have hv3:(v:Int) < 4:=by omega
     clear hwd hL;go_wp2
     go_loopw [61] (fun s61 wr=>∃i:Nat,i<=L/\s61= .int .i64 (i:Int)/\Hid (Below w2.heap.size w2 wr/\wr.heap[g]? =some (.cells ((C.efN t model v i).map (Value.int .u32)).toArray 45 (0,0)))) (fun s _=>L- (intOf s).toNat)
     case atStart=>exact⟨0,zBL _,rfl,HL⟩
     case round=>
      obtain⟨i,hi,rfl,HI⟩:=hrel
      by_cases hil:i<L
      ·obtain⟨k,hk1,hk2,hk3⟩:=C.bCn (t:=t) model (v:=v) (i:=i) (by rw[Hct.out.2.2.1];exact hlt) (by rw[HwL.out.2.1];exact hil);obtain⟨gw,ow,rfl,hcw⟩:=(HwL.out.1.bel HI.out.1).cell (i:=i) (by rw[HwL.out.2.1];exact hil);obtain⟨kk,hkk⟩:∃kk,k+1=kk:=⟨_,rfl⟩;rw[hk1,hkk]at hcw;obtain⟨bo,hbo⟩:∃b,model.getD k false=b:=⟨_,rfl⟩;have hkm:k<model.length:=by have:=Hk.out.2.2.2.1;have:=Hct.out.2.2.2;omega
       obtain⟨bm,om,u,rfl,_,hcm,hum⟩:=(Hk.out.2.2.1.below (fun _ _ _ _ _ h=>h) HI.out.1).2.2 k bo (by rw[<-hbo,List.getD,zAB hkm];rfl);obtain rfl:u= .bool bo:=hum;have hkn:k<n0:=by have:=Hct.out.2.2.2;omega
       have hwk:IntKind.i64.wrap (((kk:Nat):Int)-1)=(k:Int):=by rw[<-hkk];rw[IntWalk.i64_in _ (by omega)];omega
       rw[hbo]at hk3;obtain⟨ex,hex⟩:∃e,C.evN t model v i=e:=⟨_,rfl⟩;have hcv:wr.cell? ⟨g,v,none⟩=some (.int .u32 (ex:Int)):=by rw[cell_of_row _ _ _ _ _ (0,0) HI.out.2,zAV,zAW,C.aIi _ _ _ hlt,if_neg (by omega),if_pos rfl,hex];rfl
       have hfz:wr.frozen? ⟨g,v,none⟩=false:=aCm HI.out.2 _;have Hx:=kH (And.intro hk3 (And.intro hex (And.intro hkk hk2)));clear hk1 hk2 hk3 hbo hkm hkk hex;cases bo
       ·go_wp2;go_roundw
        case rel=>
         refine⟨i+1,by omega,by go_num,kH ⟨HI.out.1,?_⟩⟩;rw[HI.out.2,<-C.aVz t model i hlt,Hx.out.1,if_neg (by simp),zBI,Hx.out.2.1,<-Hx.out.2.1,C.bCp t model i hlt]
        case measure=>simp[intOf];omega
       ·go_upto_region 15 with(fail)
        go_region
        have hlex:ex<2 ^ i:=by rw[<-Hx.out.2.1];exact C.bFh t model v i
        rw[bCt hlex (by have:=HwL.out.2.2;omega)];have hev:C.evN t model v (i+1)=ex+2 ^ i:=by rw[Hx.out.1,if_pos rfl,Hx.out.2.1]
        have hrow6:=heap_setCell_same wr g v _ _ (.int .u32 ((ex+2 ^ i:Nat):Int)) HI.out.2;have hrow7:((wr.setCell ⟨g,v,none⟩ (.int .u32 ((ex+2 ^ i:Nat):Int))).drew).heap[g]? =some (.cells ((C.efN t model v (i+1)).map (Value.int .u32)).toArray 45 (0,0)):=by
         refine hrow6.trans ?_;rw[<-C.aVz t model i hlt,hev,List.map_set];simp
        have HF:=kH (And.intro (HI.out.1.setCell (p:=⟨g,v,none⟩) (zAM H3.out.2.2.1) (.int .u32 ((ex+2 ^ i:Nat):Int))).drew hrow7);clear hlex hev hrow6 hrow7;go_wp2;go_roundw
        case rel=>exact⟨i+1,by omega,by go_num,HF⟩
        case measure=>simp[intOf];omega
      ·obtain rfl:i=L:=by omega
       go_wp2;go_roundw
       case rel=>exact⟨v+1,by omega,by go_num,kH ⟨HI.out.1,by rw[<-C.bCq,HwL.out.2.1];exact HI.out.2⟩⟩
       case measure=>simp[intOf];omega
    ·obtain rfl:v=4:=by omega
     go_wp2;refine bodyPost_ret (aBo rfl _ _ _) rfl ?_;have hfin:=HL.out.2;rw[C.bCs model Hct.out.2.2.1]at hfin;have hel:(C.envOf t (C.modE model)).length=4:=by rw[C.aFd];exact Hct.out.2.2.1
     have hsl:=aGw hfin (by rw[hel];omega);rw[hel]at hsl;exact⟨Hk.out.1.trans (HL.out.1.mono Hk.out.1.size), .inr (.inr ⟨Hb1.out.2.1,c,Hb1.out.2.2.1,Hb1.out.2.2.2.1, .inl ⟨_,4,model,by rw[Hk.out.2.2.2.1];exact Hb1.out.2.2.2.2.symm,Hk.out.2.2.2.2,rfl,hsl⟩⟩)⟩
  ·refine⟨_,rfl,?_⟩;have HE:=kH (show FindE t W (.returned (.tuple #[(.slice none 0 0), .bool false, .int .i64 0])) w2 from⟨Hb1.out.1.drew.trans (hb2.mono Hb1.out.1.size), .inr (.inr ⟨Hb1.out.2.1,c,Hb1.out.2.2.1,Hb1.out.2.2.2.1, .inr (.inl ⟨l,r2,by rw[Hb1.out.2.2.2.2];exact fun k hk=>(r4 k hk).1,rfl⟩)⟩)⟩);have HS2:=kH (show(fun Y:World=>Y.cell? ⟨Cb,0,none⟩=some (.pointer (some ⟨Bb,0,none⟩))/\Y.cell? ⟨Bb,0,none⟩=some (.int .i64 (n0:Int))/\Y.cell? ⟨Bb,1,none⟩=some (.slice Ac (m0+1) cc)) w2 from⟨(hb2.cell (p:=⟨Cb,0,none⟩) HBl.out.1).trans HS0.out.1,(hb2.cell (p:=⟨Bb,0,none⟩) HBl.out.2).trans HS0.out.2.1,(hb2.cell (p:=⟨Bb,1,none⟩) HBl.out.2).trans HS0.out.2.2⟩);obtain⟨ll,hll⟩:∃m,l.length=m:=⟨_,rfl⟩;rw[hll];clear hll;clear hb2 r1 r2 r3 r4;refine hKK.out _ _ HS2.out (fun hHh=>?_);clear hKK KK
   try simp only[Act.put,yL]
   refine tK 15 ?_;refine tK 16 ?_;refine tK 17 ?_;refine tK 18 ?_;refine tK 19 ?_;refine tK 20 ?_;refine tK 21 ?_;refine tK 22 ?_;refine tK 23 ?_;refine wpAnyH_done (by kernel_rfl) ?_ _;go_wp2;refine bodyPost_ret (aBo rfl _ _ _) rfl ?_;exact HE.out
  ·refine⟨_,rfl,?_⟩;have HE:=kH (show FindE t W (.returned (.tuple #[(.slice none 0 0), .bool false, .int .i64 3])) w2 from⟨Hb1.out.1.drew.trans (hb2.mono Hb1.out.1.size), .inr (.inr ⟨Hb1.out.2.1,c,Hb1.out.2.2.1,Hb1.out.2.2.2.1, .inr (.inr ⟨r1,r2,rfl⟩)⟩)⟩);have HS2:=kH (show(fun Y:World=>Y.cell? ⟨Cb,0,none⟩=some (.pointer (some ⟨Bb,0,none⟩))/\Y.cell? ⟨Bb,0,none⟩=some (.int .i64 (n0:Int))/\Y.cell? ⟨Bb,1,none⟩=some (.slice Ac (m0+1) cc)) w2 from⟨(hb2.cell (p:=⟨Cb,0,none⟩) HBl.out.1).trans HS0.out.1,(hb2.cell (p:=⟨Bb,0,none⟩) HBl.out.2).trans HS0.out.2.1,(hb2.cell (p:=⟨Bb,1,none⟩) HBl.out.2).trans HS0.out.2.2⟩);clear hb2 r1 r2;refine hKK.out _ _ HS2.out (fun hHh=>?_);clear hKK KK
   try simp only[Act.put,yL]
   refine tK 15 ?_;refine tK 16 ?_;refine tK 17 ?_;refine tK 18 ?_;refine tK 19 ?_;refine tK 20 ?_;refine tK 21 ?_;refine tK 22 ?_;refine tK 23 ?_;refine wpAnyH_done (by kernel_rfl) ?_ _;go_wp2;refine bodyPost_ret (aBo rfl _ _ _) rfl ?_;exact HE.out
end
end Go.Proofs.YtchdbhggbdcapaaGreat
section
namespace Go.Proofs.YtchdbhggbdcapaaGreat.C
open T (Nd)
section
variable {t : List Nd} {c : Circ}
theorem Says.refuted(h:Says t c)(h1:aBw t=1){l:List (List Int)}(hl:∀k∈l,S.isClause c.b.n k=true)(hf:S.aBg (aAl c 1) l=none)(e:E):lsem c.b c.root e=false:=by
 apply zAI;intro hno;have hr:=h.root_lit h1;refine aJw (s:=fun l=>lsem c.b l e) (cs:=aAl c 1) (fun l hl=>aAn c.b hl e) (fun k hk=>?_) (fun k hk=>aD4 (hl k hk)) hf;rcases zBE.1 hk with hk | hk
 ·exact⟨aD4 (h.ok.lits k hk),h.ok.sat e k hk⟩
 ·rw[zBD.1 hk];have h0:=S.aAc hr;rw[show(1:Int)*c.root=c.root by omega];exact⟨fun l hl=>by rw[zBD.1 hl];exact h0,c.root,zBD.2 rfl,by simpa using hno⟩
theorem bCu(ht:Tm t)(e:E):T.EnvOk t (envOf t e):=by
 obtain⟨k,_,hk⟩:=aHw t e;rw[hk];exact aDt ht k
theorem Says.found(h:Says t c)(h1:aBw t=1){m:List Bool}(hm:∀k∈aAl c 1,S.sat m k=true):rv t (envOf t (modE m))=1:=by
 have hr:=h.root_lit h1;have h0:=S.aAc hr;obtain⟨k1,k2⟩:=h.model (z:=1) (by decide) hm h0;rw[show(1:Int)*c.root=c.root by omega]at k2;rw[h.bit0 h1,if_pos (by rw[k1 _ hr,k2])]
end
end Go.Proofs.YtchdbhggbdcapaaGreat.C
namespace Go.Proofs.YtchdbhggbdcapaaGreat
open _root_.Go.Proofs.Tryz
theorem aN8{t:List T.Nd}{c:C.Circ}{m:List Bool}(hc:aAb t=0)(hi:∀y∈t,0<=y.imm)(hb:C.build t=some c)(hm:∀k∈C.aAl c 1,S.sat m k=true):C.rv t (C.envOf t (C.modE m))=1/\T.EnvOk t (C.envOf t (C.modE m)):=
 ⟨(aFi hc hi hb).found (aBa hc).2 hm,C.bCu (C.tm_of (aBa hc).1 hi).1 _⟩
theorem aP3{t:List T.Nd}{c:C.Circ}{l:List (List Int)}(hc:aAb t=0)(hi:∀y∈t,0<=y.imm)(hb:C.build t=some c)(hf:S.aBg (C.aAl c 1) l=none)(hk:∀k∈l,S.isClause c.b.n k=true):C.cntTo t (C.nEnv t)=0:=by
 have hs:=aFi hc hi hb;have h1:=(aBa hc).2;exact(hs.none_iff h1).1 (hs.refuted h1 hk hf)
end Go.Proofs.YtchdbhggbdcapaaGreat
end
