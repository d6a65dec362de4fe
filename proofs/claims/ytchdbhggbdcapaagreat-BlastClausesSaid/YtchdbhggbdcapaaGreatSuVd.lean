/- Part. -/
import Derived.Test.YtchdbhggbdcapaaGreatSu28
import Derived.Test.YtchdbhggbdcapaaGreatSu55
import Derived.Shelf.Slices.CompactI
import Derived.Shelf.Slices.In.SortNone
import Derived.Shelf.Sort.Plain
import Derived.Sort.OwnSortedInts
set_option linter.unusedVariables false
set_option linter.unusedSimpArgs false
set_option maxRecDepth 100000
set_option maxHeartbeats 16000000
namespace Go.Proofs.YtchdbhggbdcapaaGreat
open _root_.Go.Proofs.Tryz
section
open Go.RowKit
theorem aS2(t:List T.Nd)(g k:Nat)(W:World)(hrow:W.heap[g]? =some (.cells ((T.aAa t).map (Value.int .i64)).toArray 3 (0,0)))(hm:C.Tm t)(hk:k<=4398046511104):
 Calls prog 25 #[.slice (some ⟨g,0,none⟩) 4 4, .int .i64 (k:Int)] W fun e w'=>∃A c,e= .returned (.slice A 4 c)/\SlAt (IntR .u32) w' A 4 (C.envK (T.aAa t) k)/\Below W.heap.size W w':=by
 have hwl:=T.aA9 t;have Hp:=kH (And.intro hm (And.intro hwl hrow));clear hrow hm hwl;have hmk:=fun(W':World)=>aBd (P:=prog) 42 45 (.int .u32 0) 4 underlying42 aC1 rfl .i64 .i64 4 4 (by omega) (by omega) (by omega) W'
 go_enter func25,ntmps25
 go_upto_region 2 with(fail)
 clear hmk;obtain⟨ge,hge⟩:∃g,W.heap.size=g:=⟨_,rfl⟩;obtain⟨w4,hw4⟩:∃w4,w4=W.alloc (Obj.cells (Array.replicate 4 (Value.int IntKind.u32 0)) 45):=⟨_,rfl⟩;rw[<-hw4,hge];have hb4:Below W.heap.size W w4:=by rw[hw4];exact al0
 have hr4:w4.heap[ge]? =some (.cells ((ekN t k 0).map (Value.int .u32)).toArray 45 (0,0)):=by rw[hw4,<-hge,heap_alloc_new,aMu];rfl
 have H4:=kH (And.intro hb4 (And.intro hr4 (And.intro hge (show C.total ((T.aAa t).take 0)=0 by simp[C.total]))));clear hw4 hge hb4 hr4
 go_upto_region 3 with(fail)
 go_loopw [6,1] (fun s6 s1 wr=>∃v:Nat,v<=4/\s6= .int .i64 (v:Int)/\s1= .int .i64 ((k / 2 ^ C.total ((T.aAa t).take v):Nat):Int)/\Hid (Below W.heap.size W wr/\wr.heap[ge]? =some (.cells ((ekN t k v).map (Value.int .u32)).toArray 45 (0,0)))) (fun s _ _=>4- (intOf s).toNat)
 case atStart=>exact⟨0,by omega,rfl,by rw[H4.out.2.2.2,Nat.pow_zero,Nat.div_one],kH ⟨H4.out.1,H4.out.2.1⟩⟩
 case round=>
  obtain⟨v,hv4,rfl,rfl,HI⟩:=hrel
  by_cases hlt4:v<4
  ·obtain⟨z,hz⟩:∃z,(T.aAa t)[v]? =some z:=⟨_,zAB (by have:=Hp.out.2.1;omega)⟩;obtain⟨z0,z1⟩:=C.aCx Hp.out.1 hz;have hs:=aEp hz;have hea:=C.aF4 (T.aAa t) k v (by have:=Hp.out.2.1;omega);have hgd:(T.aAa t).getD v 0=z:=by rw[List.getD,hz];rfl
   rw[hgd]at hea;obtain⟨K,hK⟩:∃K,C.total ((T.aAa t).take v)=K:=⟨_,rfl⟩;obtain⟨m,rfl⟩:∃m:Nat,z=m:=⟨z.toNat,by omega⟩;rw[hK,zBA]at hs hea;rw[hK];obtain⟨q,hq⟩:∃q,k / 2 ^ K=q:=⟨_,rfl⟩;rw[hq]at hea⊢;have hqk:q<=k:=by rw[<-hq];exact Nat.div_le_self _ _
   have hm32:m<=32:=by omega
   have hc:=(HI.out.1.cell (p:=⟨g,v,none⟩) (gA Hp.out.2.2).1).trans (cell_of_row W g v _ _ (0,0) Hp.out.2.2);rw[zAV,zAW,hz]at hc;have hc:wr.cell? ⟨g,v,none⟩=some (.int .i64 (m:Int)):=hc;have hv3:(v:Int) < 4:=by omega
   have hfz:wr.frozen? ⟨ge,v,none⟩=false:=aCm HI.out.2 _;have hcv:wr.cell? ⟨ge,v,none⟩=some (.int .u32 0):=by rw[cell_of_row _ _ _ _ _ (0,0) HI.out.2,zAV,zAW,aHa _ _ _ hlt4,if_neg (by omega)];rfl
   have Hs:=kH (And.intro hs (And.intro hea hq));have h2m:(2:Nat) ^ m<=4294967296:=zBK (zAJ (by decide) hm32) (by decide);have h2p:=Nat.two_pow_pos m;obtain⟨pm,hpm⟩:∃p:Nat,2 ^ m=p:=⟨_,rfl⟩;rw[hpm]at h2m h2p;have hw:IntKind.i64.wrap ((2:Int) ^ m)=(pm:Int):=by
    have h1:(2:Int) ^ m=((2 ^ m:Nat):Int):=by simp
    rw[h1,hpm];exact IntWalk.i64_in _ (by omega)
   clear hs hK hz hea hgd hq;go_wp2;have hdq:wrap64 ((q:Int) / (pm:Int))=((q / pm:Nat):Int):=by
    have h1:q / pm<=q:=Nat.div_le_self _ _;have h2:wrap64 ((q / pm:Nat):Int)=((q / pm:Nat):Int):=by
     obtain⟨r,hr⟩:∃r,q / pm=r:=⟨_,rfl⟩;rw[hr]at h1⊢;exact IntWalk.wrap64_in _ (by omega)
    rw[<-Int.natCast_ediv,h2]
   have hmq:(q:Int) % (pm:Int) % 4294967296=((q % 2 ^ m:Nat):Int):=by
    have h1:q % pm<pm:=Nat.mod_lt _ h2p;rw[hpm,<-Int.natCast_emod];obtain⟨r,hr⟩:∃r,q % pm=r:=⟨_,rfl⟩;rw[hr]at h1⊢;omega
   rw[hdq,hmq];go_roundw
   case rel=>
    refine⟨v+1,by omega,by go_num,?_,kH ⟨HI.out.1.setCell (p:=⟨ge,v,none⟩) (zAM H4.out.2.2.1) _,?_⟩⟩
    ·rw[Hs.out.1,Nat.pow_add,<-Nat.div_div_eq_div_mul,Hs.out.2.2,hpm]
    ·rw[heap_setCell_same wr ge v _ _ _ HI.out.2,<-aO1 t k hlt4,Hs.out.2.1,List.map_set];simp
   case measure=>simp[intOf];omega
  ·obtain rfl:v=4:=by omega
   have hrow:=HI.out.2;rw[aMv]at hrow;have hel:(C.envK (T.aAa t) k).length=4:=by rw[C.aE6];exact Hp.out.2.1
   have hsl:=aGw hrow (by rw[hel];omega);rw[hel]at hsl;have Hsl:=kH hsl;clear hrow hel hsl;go_wp2;go_ret;exact⟨_,_,rfl,Hsl.out,HI.out.1⟩
end
section
open Go.RowKit
theorem aGe(t:List T.Nd)(n ct:Nat)(At:Option Addr)(W:World)(hT:StAt 5 NdR W At n t):Calls prog 22 #[.slice At n ct] W (WsR t W):=by
 have HV:=kH (aE0 t n ct At W hT);have HT:=kH hT;have hlen:=hT.len;clear hT
 by_cases hv:T.valid true t=0
 ·obtain⟨v1,v2,v3,v4,v5⟩:=aBk hv;rw[hv]at HV;have HW:=kH (fun W' (h:Below W.heap.size W W')=>aLu t n ct At W' (HT.out.below aAh h) (T.aFc v3 (aBq HT.out)) (by omega));have Hv:=kH hv;clear hv v1 v2 v3 v4 v5 hlen
  go_enter func22,ntmps22
  go_wp2_with fail
  refine HV.out.mono ?_;rintro e w1 ⟨rfl,hb1⟩;have Hb1:=kH hb1;clear hb1
  go_wp2_with fail
  refine(HW.out _ Hb1.out).mono ?_;rintro e w2 ⟨g,rfl,hg,hrow,hb2⟩;have Hb2:=kH (Hb1.out.trans (hb2.mono Hb1.out.size));have Hg:=kH (zBK Hb1.out.size hg);have Hrow:=kH hrow;clear hb2 hg hrow;go_wp2;go_ret2;exact⟨Hb2.out, .inr ⟨Hv.out,g,rfl,Hg.out,Hrow.out⟩⟩
 ·have Hv:=kH hv;obtain⟨er,her⟩:∃er,er=T.valid true t:=⟨_,rfl⟩;rw[<-her]at HV hv;have hvb:(er != 0)=true:=by simpa using hv
  have Her:=kH her;clear her hlen
  go_enter func22,ntmps22
  go_wp2_with fail
  refine HV.out.mono ?_;rintro e w1 ⟨rfl,hb1⟩;have Hb1:=kH hb1;clear hb1;go_wp2;go_ret2;exact⟨Hb1.out, .inl ⟨Hv.out,by rw[<-Her.out];rfl⟩⟩
end
end Go.Proofs.YtchdbhggbdcapaaGreat
section
namespace Go.Proofs.YtchdbhggbdcapaaGreat.C
open S
open T (Nd)
section
variable {cs : List (List Int)} {given : List Int} {s : Int -> Bool}
theorem aN6(hn:∀l,l≠0->s (-l)= !s l)(hc:∀c∈cs,(∀l∈c,l≠0)/\∃l∈c,s l=true)(hg:∀l∈given,l≠0/\s l=true):¬aA2 cs given:=by
 have hd:=fun{l:Int} (h:Der cs given l)=>aMa hn hc (fun l hl=>(hg l hl).2) h
 have hz:∀{l:Int},Der cs given l->l≠0:=fun h=>by
  cases h with
  | given_ h=>exact(hg _ h).1
  | unit_ h1 h2 _=>exact(hc _ h1).1 _ h2
 rintro(⟨l,h1,h2⟩ |⟨c,h1,h2⟩)
 ·have a1:=hd h1;have a2:=hd h2;rw[hn l (hz h1),a1]at a2;cases a2
 ·obtain⟨h4,m,hm,hsm⟩:=hc c h1;have:=hd (h2 m hm);rw[hn m (h4 m hm),hsm]at this;cases this
end
end Go.Proofs.YtchdbhggbdcapaaGreat.C
end
namespace Go.Proofs.YtchdbhggbdcapaaGreat
open _root_.Go.Proofs.Tryz
section
open Go.RowKit
theorem aS4(t:List T.Nd)(env:List Int)(n ct ce:Nat)(At Ae:Option Addr)(W:World)(hT:StAt 5 NdR W At n t)(hE:SlAt (IntR .u32) W Ae 4 env)(hS:T.Std t env)(hn:n<=1000000)(hsm:∀x∈t,x.op=0\/x.op=33\/x.op=14):
 Calls prog 113 #[.slice At n ct, .slice Ae 4 ce] W fun e w'=>∃g,e= .returned (.slice (some ⟨g,0,none⟩) n n)/\W.heap.size<=g/\w'.heap[g]? =some (.cells ((T.vals t env).map (Value.int .u32)).toArray 45 (0,0))/\Below W.heap.size W w':=by
 have HT:=kH hT;have HE:=kH hE;have HS:=kH hS;have Hlen:=kH hT.len;have hle:=hT.le;have Hsm:=kH hsm;clear hT hE hS hsm;have hmk:=fun(W':World)=>aBd (P:=prog) 42 45 (.int .u32 0) 4 underlying42 aC1 rfl .i64 .i64 n (n:Int) rfl (by omega) (by omega) W'
 go_enter func113,ntmps113
 go_wp2;clear hmk
 go_loopg [16] (n+1) (fun g i wr=>∃(j:Nat),j<=n/\i= .int .i64 (j:Int)/\g+j=n+1/\Below W.heap.size W wr/\W.heap.size+1<wr.heap.size/\Hid (wr.heap[W.heap.size]? =some (.cells (fillC (T.valsTo t env j) n).toArray 45 (0,0)))/\Hid (wr.heap[W.heap.size+1]? =some (.cells #[.slice (some ⟨W.heap.size,0,none⟩) n n] 42 (0,0))))
 case atStart=>exact⟨0,zBL _,rfl,rfl,(al0).alloc (by simp) _,by simp,kH (by rw[show(fillC (T.valsTo t env 0) n).toArray=Array.replicate n (.int .u32 0)from aPi n];exact aA1 (heap_alloc_new W _) _),kH (aC2 W _ _)⟩
 case round=>
  obtain⟨j,hj,rfl,hgk,hbw,hsz,HG,HO⟩:=hrel;have Hgk:=kH hgk;clear hgk
  by_cases hlt:j<n
  ·obtain⟨x,b,off,A,c,hx,rfl,hb,h0,h1,h2,h3,h4,hs,i0,i1⟩:=aBf (HT.out.below aAh hbw) hlt;have Hx:=kH hx;have hcase0:=Hsm.out x (zAC hx);have Hval:=kH (show T.valsTo t env (j+1)=T.valsTo t env j ++ [T.val t (T.valsTo t env j) env x]from by rw[T.valsTo,aAi hx]);have Hnod:=kH (show T.Nod t env (T.valsTo t env j) x from HS.out.nod (T.aFs HS.out j (by rw[Hlen.out];omega)) (by rw[T.valsTo_len];exact hx));obtain⟨vv,hvv⟩:∃vv,vv=T.val t (T.valsTo t env j) env x:=⟨_,rfl⟩;rw[<-hvv]at Hval;have Hvv:=kH hvv;have Hs:=kH hs;have Hb:=kH hbw;obtain⟨W1,hW1⟩:∃W1,W1=wr.alloc (.cells #[.int .i64 x.op, .int .i64 x.w, .int .i64 x.fl, .slice A x.args.length c, .int .u32 x.imm] 56):=⟨_,rfl⟩;have hB1:Below wr.heap.size wr W1:=by rw[hW1];exact al0
   have hr1:W1.heap[wr.heap.size]? =some (.cells #[.int .i64 x.op, .int .i64 x.w, .int .i64 x.fl, .slice A x.args.length c, .int .u32 x.imm] 56 (0,0)):=by rw[hW1];exact heap_alloc_new wr _
   have HB1:=kH hB1;obtain⟨ov⟩:=ov_ex W1;have Hs1:=kH (show W1.heap.size=wr.heap.size+1 from by rw[hW1];simp);have hX:W1.cell? ⟨wr.heap.size,0,none⟩=some (.int .i64 x.op)/\W1.cell? ⟨wr.heap.size,1,none⟩=some (.int .i64 x.w)/\W1.cell? ⟨wr.heap.size,3,none⟩=some (.slice A x.args.length c)/\W1.cell? ⟨wr.heap.size,4,none⟩=some (.int .u32 x.imm):=by
    refine⟨?_,?_,?_,?_⟩
    all_goals rw[cell_of_row _ _ _ _ _ (0,0) hr1];rfl
   obtain⟨x0,x1,x3,x4⟩:=hX;have HG1:=kH (aBt HB1 HG.out);have HO1:=kH (aBt HB1 HO.out);have ho1:W1.cell? ⟨W.heap.size+1,0,none⟩=some (.slice (some ⟨W.heap.size,0,none⟩) n n):=by rw[cell_of_row _ _ _ _ _ (0,0) HO1.out];rfl
   have Hb1:=kH (show Below W.heap.size W W1 from Hb.out.trans (HB1.out.mono Hb.out.size));have Hfin:=kH (show∀(X:World) (u:Int),Below W1.heap.size W1 X->vv=u->Below W.heap.size W (X.setCell ⟨W.heap.size,j,none⟩ (.int .u32 u))/\W.heap.size+1<(X.setCell ⟨W.heap.size,j,none⟩ (.int .u32 u)).heap.size/\Hid ((X.setCell ⟨W.heap.size,j,none⟩ (.int .u32 u)).heap[W.heap.size]? =some (.cells (fillC (T.valsTo t env (j+1)) n).toArray 45 (0,0)))/\Hid ((X.setCell ⟨W.heap.size,j,none⟩ (.int .u32 u)).heap[W.heap.size+1]? =some (.cells #[.slice (some ⟨W.heap.size,0,none⟩) n n] 42 (0,0)))from fun X u hX hu=>by
    have hXs:=hX.size;have e1:=Hs1.out;refine⟨(Hb1.out.trans (hX.mono Hb1.out.size)).setCell (p:=⟨W.heap.size,j,none⟩) (zBJ _) _,by simp;omega,kH ?_,kH ?_⟩
    ·subst hu;rw[Hval.out];exact aPj (aBt (kH hX) HG1.out) (T.valsTo_len _ _ _) hlt
    ·rw[heap_setCell_other _ _ _ _ (by simp)];exact aBt (kH hX) HO1.out)
   have HfinZ:=kH (show∀(X:World),Below W1.heap.size W1 X->vv=0->Below W.heap.size W X/\W.heap.size+1<X.heap.size/\Hid (X.heap[W.heap.size]? =some (.cells (fillC (T.valsTo t env (j+1)) n).toArray 45 (0,0)))/\Hid (X.heap[W.heap.size+1]? =some (.cells #[.slice (some ⟨W.heap.size,0,none⟩) n n] 42 (0,0)))from fun X hX hu=>by
    have hXs:=hX.size;have e1:=Hs1.out;refine⟨Hb1.out.trans (hX.mono Hb1.out.size),by omega,kH ?_,kH (aBt (kH hX) HO1.out)⟩;subst hu;rw[Hval.out,aPx (by rw[T.valsTo_len];exact hlt)];exact aBt (kH hX) HG1.out)
   have hsf:∀(X:World),Below W1.heap.size W1 X->(∃v0,X.cell? ⟨W.heap.size,j,none⟩=some v0)/\X.frozen? ⟨W.heap.size,j,none⟩=false:=fun X hX=>by
    obtain⟨q1,q2⟩:=aPk (aBt (kH hX) HG1.out) (a:=j) (by rw[T.valsTo_len];omega) hlt;exact⟨Option.isSome_iff_exists.1 q1,q2⟩
   have Hsf:=kH hsf;have HClo:=kH (show∀(u:World) (i:Nat),i<x.args.length->0<=x.args.getD i 0/\x.args.getD i 0<(j:Int)->Calls prog 143 #[.int .i64 (i:Int), .pointer (some ⟨W.heap.size+1,0,none⟩), .pointer (some ⟨wr.heap.size,0,none⟩)] (ov.f u) (fun e w'=>e= .returned (.int .u32 (T.at_ (T.valsTo t env j) x i))/\∃m,w'=ov.f m)from fun u i hi ha=>by
    have hV:=(aPw HG1.out (by rw[T.valsTo_len];omega) hn).below (aAd _) (ov.below u);have hA:=(hs.below (aAd _) hB1).below (aAd _) (ov.below u);have:=aN0 _ x.args i (W.heap.size+1) wr.heap.size n x.args.length c n _ A (ov.f u) hV hA (ov.cell ho1 u) (ov.cell x3 u) hi ⟨ha.1,by omega⟩;have he:(T.valsTo t env j ++ List.replicate (n- (T.valsTo t env j).length) (0:Int)).getD (x.args.getD i 0).toNat 0=T.at_ (T.valsTo t env j) x i:=by unfold T.at_;exact T.aNj (by rw[T.valsTo_len];omega)
    rw[he]at this;exact aJr this)
   obtain⟨op,w,fl,args,imm⟩:=x
   dsimp only at h0 h1 h2 h3 h4 x0 x1 x3 x4 i0 i1 hW1
   clear hx hvv hs hbw hB1 hr1 hsf
   dsimp only at hcase0
   rcases hcase0 with rfl | rfl | rfl
   ·have Hv:=kH (show vv=imm from Hvv.out.trans (T.val_0 rfl));obtain⟨⟨v0,hv0⟩,hf0⟩:=Hsf.out W1 (Below.refl _ _);subst hW1;go_wp2;obtain⟨g1,g2,g3,g4⟩:=Hfin.out _ imm (Below.refl _ _) Hv.out
    go_roundg (gk-1)
    case measure=>have:=Hgk.out;omega
    case rel=>have:=Hgk.out;exact⟨j+1,by omega,by go_num,by omega,g1,g2,g3,g4⟩
   ·have Hi:=kH (show imm<4 from by have:=Hnod.out.imm;unfold T.immOk at this;simpa using this);obtain⟨v,rfl⟩:∃v:Nat,imm=v:=⟨imm.toNat,by omega⟩;have hv4:v<4:=by have:=Hi.out;omega
    obtain⟨y,be,offe,ue,hy,rfl,hbe,hce,hue⟩:=(HE.out.below (aAd _) Hb1.out).at_ hv4;obtain rfl:ue= .int .u32 y:=hue;have Hv:=kH (show vv=y from by rw[Hvv.out,T.aSu rfl];exact aAi hy);have o1:=ov.cell ho1;have o2:=ov.cell hce;have o3:=ov.cell x4;clear hy hbe hce;rw[hW1]at x0;go_wp2;rw[<-hW1]at x0⊢;clear hW1 h0 h1 h2 h3 h4;refine aDe ov (by kernel_rfl) (by kernel_rfl) ?_
    dsimp only[aEv,aEu]
    repeat(go_big_quiet_step (fail))
    refine wpQuiet_nil ?_;clear o1 o2 o3 x0 x1 x3 x4;rintro _ ⟨u,rfl⟩ K hK;have hb2:=ov.below u;obtain⟨⟨v0,hv0⟩,hf0⟩:=Hsf.out _ hb2;obtain⟨g1,g2,g3,g4⟩:=Hfin.out _ (y) hb2 Hv.out;generalize ov.f u=w2 at hv0 hf0 g1 g2 g3 g4⊢;clear hb2;go_wp2;refine hK _ _ ?_;clear hK K;go_wp2
    go_roundg (gk-1)
    case measure=>have:=Hgk.out;omega
    case rel=>have:=Hgk.out;exact⟨j+1,by omega,by go_num,by omega,g1,g2,g3,g4⟩
   ·obtain⟨hl,m0,m9,ew⟩:=Hnod.out.cmp rfl
    dsimp only at hl m0 m9
    have hlo0:=Hnod.out.lo 0 (by dsimp only at hl⊢;omega);rw[T.valsTo_len]at hlo0
    dsimp only at hlo0
    have hlo1:=Hnod.out.lo 1 (by dsimp only at hl⊢;omega);rw[T.valsTo_len]at hlo1
    dsimp only at hlo1
    have hzw0:=Hnod.out.wd 0 (by dsimp only at hl⊢;omega);have ha0:=Hnod.out.at_ 0 (by dsimp only at hl⊢;omega);have ha1:=Hnod.out.at_ 1 (by dsimp only at hl⊢;omega);rw[ew]at ha1;obtain⟨a0,hga0⟩:∃a0,a0=T.at_ (T.valsTo t env j) ⟨14,w,fl,args,imm⟩ 0:=⟨_,rfl⟩;obtain⟨a1,hga1⟩:∃a1,a1=T.at_ (T.valsTo t env j) ⟨14,w,fl,args,imm⟩ 1:=⟨_,rfl⟩;have HC0:=kH (show∀u,Calls prog 143 #[.int .i64 0, .pointer (some ⟨W.heap.size+1,0,none⟩), .pointer (some ⟨wr.heap.size,0,none⟩)] (ov.f u) (fun e w'=>e= .returned (.int .u32 a0)/\∃m,w'=ov.f m)from fun u=>by rw[hga0];exact HClo.out u 0 (by dsimp only at hl⊢;omega) hlo0);have HC1:=kH (show∀u,Calls prog 143 #[.int .i64 1, .pointer (some ⟨W.heap.size+1,0,none⟩), .pointer (some ⟨wr.heap.size,0,none⟩)] (ov.f u) (fun e w'=>e= .returned (.int .u32 a1)/\∃m,w'=ov.f m)from fun u=>by rw[hga1];exact HClo.out u 1 (by dsimp only at hl⊢;omega) hlo1);obtain⟨y0,ba,offa,ua,hy,hA0,_,hca,hua⟩:=(Hs.out.below (aAd _) HB1.out).at_ (k:=0) (show 0<args.length by omega);subst hA0;rw[zBI]at hca;obtain rfl:ua= .int .i64 y0:=hua;have hlo9:=hlo0;rw[aAi hy]at hlo9;obtain⟨q,rfl⟩:∃q:Nat,y0=q:=⟨y0.toNat,by omega⟩;have hqn:q<n:=by omega
    obtain⟨zz,bz,offz,A2,c2,hz,hAz,hbz,_,hw2,_⟩:=aBf (HT.out.below aAh Hb1.out) (j:=q) hqn;cases hAz;have ewd:T.wd t ⟨14,w,fl,args,imm⟩ 0=zz.w:=by unfold T.wd;dsimp only;rw[aAi hy,zBA,aAi hz]
    obtain⟨zw,hzw⟩:∃zw,zw=zz.w:=⟨_,rfl⟩;rw[<-hzw]at ewd hw2;have o5:=ov.cell hca;have o6:=ov.cell hw2;have hv9:=Hvv.out.trans (T.aSv rfl)
    dsimp only at hv9
    rw[<-hga0,<-hga1,ewd]at hv9;rw[ewd]at ha0 ha1 hzw0;rw[<-hga0]at ha0;rw[<-hga1]at ha1;have hQ:=fun W':World=>aKd imm zw a0 a1 W' m0 m9 hzw0.1 hzw0.2 ha0.1 ha0.2 ha1.1 ha1.2
    generalize T.cmp imm zw a0 a1=cc at hv9 hQ;have HQ:=kH (show∀u,Calls prog 144 #[.int .i64 imm, .int .i64 zw, .int .u32 a0, .int .u32 a1] (ov.f u) (fun e w'=>e= .returned (.tuple #[.bool cc, .int .i64 0])/\∃m,w'=ov.f m)from fun u=>aFv (hQ _));have hle3:=Hs.out.le
    dsimp only at hle3
    rw[hl]at h3 x3 hW1 hle3;have o3:=ov.cell x4;have o4:=ov.cell x3;clear hQ hga0 hga1 hzw ewd hz hy ha0 ha1 ew hzw0 hlo0 hlo1 hlo9 HClo hl hca hw2 hbz m0 m9;rw[hW1]at x0;go_wp2;rw[<-hW1]at x0⊢;clear hW1 h0 h1 h2 h3 h4;refine aDq ov (by kernel_rfl) (by kernel_rfl) ?_
    repeat(go_big_quiet_step ((first |(go_at_call 143;with_reducible exact HC0.out _) |(go_at_call 143;with_reducible exact HC1.out _) |(go_at_call 144;with_reducible exact HQ.out _))))
    refine wpQuiet_nil ?_;clear o3 o4 o5 o6 x0 x1 x3 x4 HC0 HC1 HQ;rintro _ ⟨u,rfl⟩;have hb2:=ov.below u;cases cc
    ·have Hv:=kH (show vv=0 from by rw[hv9];simp);clear hv9;obtain⟨g1,g2,g3,g4⟩:=HfinZ.out _ hb2 Hv.out;generalize ov.f u=w2 at g1 g2 g3 g4⊢;clear hb2;go_wp2
     go_roundg (gk-1)
     case measure=>have:=Hgk.out;omega
     case rel=>have:=Hgk.out;exact⟨j+1,by omega,by go_num,by omega,g1,g2,g3,g4⟩
    ·have Hv:=kH (show vv=1 from by rw[hv9];simp);clear hv9;obtain⟨⟨v0,hv0⟩,hf0⟩:=Hsf.out _ hb2;obtain⟨g1,g2,g3,g4⟩:=Hfin.out _ 1 hb2 Hv.out;have ho2:=ov.cell ho1 u;generalize ov.f u=w2 at hv0 hf0 g1 g2 g3 g4 ho2⊢;clear hb2;go_wp2
     go_roundg (gk-1)
     case measure=>have:=Hgk.out;omega
     case rel=>have:=Hgk.out;exact⟨j+1,by omega,by go_num,by omega,g1,g2,g3,g4⟩
  ·obtain rfl:j=n:=by omega
   have hrow:=HG.out;rw[aNf (T.valsTo_len t env j),show T.valsTo t env j=T.vals t env from by unfold T.vals;rw[Hlen.out]]at hrow;have ho1:wr.cell? ⟨W.heap.size+1,0,none⟩=some (.slice (some ⟨W.heap.size,0,none⟩) j j):=by rw[cell_of_row _ _ _ _ _ (0,0) HO.out];rfl
   have Hrow:=kH hrow;have Hb:=kH hbw;clear hrow hbw;go_wp2;go_ret;exact⟨W.heap.size,rfl,zBJ _,Hrow.out,Hb.out⟩
theorem aUo(t:List T.Nd)(env:List Int)(n ct ce:Nat)(At Ae:Option Addr)(W:World)(hT:StAt 5 NdR W At n t)(hE:SlAt (IntR .u32) W Ae 4 env)(hv:T.valid true t=0)(he:T.EnvOk t env)(hsm:∀x∈t,x.op=0\/x.op=33\/x.op=14):
 Calls prog 66 #[.slice At n ct, .slice Ae 4 ce] W fun e w'=>∃g,e= .returned (.tuple #[.slice (some ⟨g,0,none⟩) n n, .int .i64 0])/\W.heap.size<=g/\w'.heap[g]? =some (.cells ((T.vals t env).map (Value.int .u32)).toArray 45 (0,0))/\Below W.heap.size W w':=by
 have HWs:=kH (aDs t n ct At W hT);have hlen:=hT.len;have hn:=(aBk hv).2.1;have HV:=kH (fun W' (hb:Below W.heap.size W W')=>aS4 t env n ct ce At Ae W' (hT.below aAh hb) (hE.below (aAd _) hb) (T.aNk hv (aBq hT) he) (by omega) hsm);obtain⟨v1,v2,v3,v4,v5⟩:=aBk hv;have Hok:=kH (T.aFc v3 (aBq hT));have HE:=kH hE;have Hv:=kH hv;have He:=kH he;have Hi:=kH (aBq hT);have HM:=kH (fun z (h0:1<=z) (h1:z<=32) W'=>aL4 z W');have Hsh:=kH v3;have hle:=hT.le;clear hT hE hv he v1 v2 v3 v4 v5 hlen hn
 go_enter func66,ntmps66
 go_wp2_with fail
 refine HWs.out.mono ?_;rintro e w1 ⟨hb1,h |⟨_,g,rfl,hg,hrow⟩⟩
 ·exact absurd Hv.out h.1
 have Hb1:=kH hb1;have Hrow:=kH hrow;clear hb1 hrow;go_wp2
 go_loopg [25] (5) (fun gh i wr=>∃(k:Nat),k<=4/\i= .int .i64 (k:Int)/\gh+k=5/\w1=wr)
 case atStart=>exact⟨0,by omega,rfl,rfl,rfl⟩
 case round=>
  obtain⟨k,hk,rfl,hgk,rfl⟩:=hrel;have Hgk:=kH hgk;clear hgk
  by_cases hlt:k<4
  ·obtain⟨z,hz⟩:=aLa t hlt;have hc:w1.cell? ⟨g,k,none⟩=some (.int .i64 z):=by rw[cell_of_row _ _ _ _ _ (0,0) Hrow.out,zAV,zAW,hz];rfl
   by_cases hz0:z=0
   ·subst hz0;clear hz;go_wp2
    go_roundg (gk-1)
    case measure=>have:=Hgk.out;omega
    case rel=>have:=Hgk.out;exact⟨k+1,by omega,by go_num,by omega,rfl⟩
   ·obtain⟨i,y,hy,h33,hyv,hyw⟩:=T.aFr hz hz0;have hs:=T.aAo (Hsh.out i y hy);have hz1:1<=z:=by rw[<-hyw];exact hs.2.2.1
    have hz2:z<=32:=by rw[<-hyw];exact hs.2.2.2.1
    obtain⟨x,be,offe,ue,hx,rfl,hbe,hce,hue⟩:=(HE.out.below (aAd _) Hb1.out).at_ hlt;obtain rfl:ue= .int .u32 x:=hue;have hfit:=He.out.fit k z hz hz0;rw[aAi hx]at hfit;have hm:decide (B.pw z-1<x)=false:=by simp;omega
    have hq:(z == 0)=false:=by simpa using hz0
    have hM:=HM.out z hz1 hz2;rw[B.aBj.2 ⟨hz1,hz2⟩]at hM;have HM2:=kH hM;clear hx hbe hfit hy h33 hyv hyw hs hz hz0 hz1 hz2 hM
    go_wp2_with (go_at_call 112;(with_reducible refine(HM2.out _).mono ?_);rintro e w3 ⟨rfl,rfl⟩)
    go_roundg (gk-1)
    case measure=>have:=Hgk.out;omega
    case rel=>have:=Hgk.out;exact⟨k+1,by omega,by go_num,by omega,rfl⟩
  ·obtain rfl:k=4:=by omega
   go_wp2_with fail
   refine(HV.out _ Hb1.out).mono ?_;rintro e w2 ⟨g2,rfl,hg2,hrow2,hb2⟩;have Hb2:=kH (Hb1.out.trans (hb2.mono Hb1.out.size));have Hg2:=kH (zBK Hb1.out.size hg2);have Hrow2:=kH hrow2;clear hb2 hg2 hrow2;go_wp2;go_ret2;exact⟨g2,rfl,Hg2.out,Hrow2.out,Hb2.out⟩
theorem aZ7(t:List T.Nd)(env:List Int)(n ct ce:Nat)(At Ae:Option Addr)(W:World)(hT:StAt 5 NdR W At n t)(hE:SlAt (IntR .u32) W Ae 4 env)(hv:T.valid true t=0)(he:T.EnvOk t env)(hsm:∀x∈t,x.op=0\/x.op=33\/x.op=14):
 Calls prog 42 #[.slice At n ct, .slice Ae 4 ce] W fun e w'=>e= .returned (.tuple #[.int .u32 ((T.vals t env).getD (n-1) 0), .int .i64 0])/\Below W.heap.size W w':=by
 have HV:=kH (aUo t env n ct ce At Ae W hT hE hv he hsm);have hlen:=hT.len;have hn:=(aBk hv).1;have hle:=hT.le;have Hl:=kH (show(T.vals t env).length=n from(T.aR3 t env).trans hlen);rw[hlen]at hn;obtain⟨v,hvv⟩:∃v,v=(T.vals t env).getD (n-1) 0:=⟨_,rfl⟩;rw[<-hvv];have Hvv:=kH hvv;clear hT hE hv he hlen hvv
 go_enter func42,ntmps42
 go_wp2_with fail
 refine HV.out.mono ?_;rintro e w1 ⟨g,rfl,hg,hrow,hb1⟩;have Hb1:=kH hb1;have hx:(T.vals t env)[n-1]? =some v:=by rw[Hvv.out,T.aEk (by rw[Hl.out];omega)];exact zAB _
 have hc:w1.cell? ⟨g,n-1,none⟩=some (.int .u32 v):=by rw[cell_of_row _ _ _ _ _ (0,0) hrow,zAV,zAW,hx];rfl
 have hs:((n:Int)-1).toNat=n-1:=by omega
 clear hb1 hrow hx hg;go_wp2;go_ret2;exact⟨rfl,Hb1.out⟩
theorem aXu(t:List T.Nd)(n ct:Nat)(At:Option Addr)(W:World)(hT:StAt 5 NdR W At n t)(hsm:∀x∈t,x.op=0\/x.op=33\/x.op=14)(hc0:aAb t=0)(h16:¬16<C.total (T.aAa t)):
 Calls prog 18 #[.slice At n ct] W fun e w'=>e= .returned (.tuple #[.int .i64 (aBi t).1, .int .i64 (aBi t).2])/\Below W.heap.size W w':=by
 have HC:=kH (aH4 t n ct At W hT);have HE:=kH (fun X (hX:Below W.heap.size W X)=>aDm t n ct At X (hT.below aAh hX));have Hi:=kH (aBq hT);have HT:=kH hT;obtain⟨ce,hce⟩:∃c,aAb t=c:=⟨_,rfl⟩;rw[hce]at HC;have Hce:=kH hce;clear hT hce;have Hsm:=kH hsm;obtain rfl:ce=0:=by rw[<-Hce.out];exact hc0
 clear hsm hc0;obtain⟨hv,_⟩:=aBa Hce.out;have hee:envsE t=if 16<C.total (T.aAa t)then(0,3)else(((2 ^ C.total (T.aAa t):Nat):Int),0):=by unfold envsE;rw[if_neg (by simp[hv])]
 have hco:aBi t=if 16<C.total (T.aAa t)then(0,3)else((C.cntTo t (C.nEnv t):Int),0):=by unfold aBi;rw[if_neg (by simp[Hce.out])]
 rw[hco];rw[hee]at HE;rw[if_neg h16];rw[if_neg h16]at HE;have htm:=(C.tm_of hv Hi.out).1;have hwl:=T.aA9 t;have HW:=kH (fun X (hX:Below W.heap.size W X)=>aDs t n ct At X (HT.out.below aAh hX));have hpw:2 ^ C.total (T.aAa t)<=65536:=zBK (zAJ (by decide) (show C.total (T.aAa t)<=16 by omega)) (by decide);obtain⟨p,hp⟩:∃p:Nat,2 ^ C.total (T.aAa t)=p:=⟨_,rfl⟩;rw[hp]at hpw HE;have hln:t.length=n:=HT.out.len;have Hp:=kH (And.intro htm (And.intro hwl (And.intro h16 (And.intro hp (And.intro hv hln)))));clear hco hee h16 htm hwl hp hv hln
 go_enter func18,ntmps18
 go_wp2_with fail
 refine HC.out.mono ?_;rintro e w1 ⟨rfl,hb1⟩;have HBk:=kH (HE.out w1 hb1);have Hb1:=kH hb1;clear hb1 HC HE
 go_wp2_with fail
 refine HBk.out.mono ?_;rintro e w2 ⟨rfl,hb2⟩;have HWk:=kH (HW.out w2 (Hb1.out.trans (hb2.mono Hb1.out.size)));have Hb2:=kH (Hb1.out.trans (hb2.mono Hb1.out.size));clear hb2 HBk HW
 go_wp2_with fail
 refine HWk.out.mono ?_;rintro e w3 ⟨hb,⟨hno,_⟩ |⟨_,g,rfl,hg,hrow⟩⟩
 ·exact absurd Hp.out.2.2.2.2.1 hno
 ·have H3:=kH (And.intro (Hb2.out.trans (hb.mono Hb2.out.size)) (And.intro hrow (zBK Hb2.out.size hg)));clear hb hg hrow HWk;have hmk:=fun(W':World)=>aBd (P:=prog) 42 45 (.int .u32 0) 4 underlying42 aC1 rfl .i64 .i64 4 4 (by omega) (by omega) (by omega) W'
  go_upto_region 10 with(fail)
  go_loopw [36,9] (fun s36 s9 wr=>∃k:Nat,k<=p/\s36= .int .i64 (k:Int)/\s9= .int .i64 ((C.cntTo t k:Nat):Int)/\Hid (Below w3.heap.size w3 wr)) (fun s _ _=>p- (intOf s).toNat)
  case atStart=>exact⟨0,zBL _,rfl,rfl,kH (Below.refl _ _)⟩
  case round=>
   obtain⟨k,hk,rfl,rfl,HL⟩:=hrel
   by_cases hlt:k<p
   ·have hkp:(k:Int) <(p:Int):=by omega
    go_upto_region 13 with(fail)
    obtain⟨ge,hge⟩:∃g,wr.heap.size=g:=⟨_,rfl⟩;obtain⟨w4,hw4⟩:∃w4,w4=wr.alloc (Obj.cells (Array.replicate 4 (Value.int IntKind.u32 0)) 45):=⟨_,rfl⟩;rw[<-hw4,hge];have hb4:Below w3.heap.size w3 w4:=by rw[hw4];exact HL.out.alloc HL.out.size _
    have hr4:w4.heap[ge]? =some (.cells ((ekN t k 0).map (Value.int .u32)).toArray 45 (0,0)):=by rw[hw4,<-hge,heap_alloc_new,aMu];rfl
    have H4:=kH (And.intro hb4 (And.intro hr4 (And.intro (show w3.heap.size<=ge by rw[<-hge];exact HL.out.size) (show C.total ((T.aAa t).take 0)=0 by simp[C.total]))));clear hw4 hge hb4 hr4
    go_upto_region 15 with(fail)
    go_loopw [43,12] (fun s43 s12 wr=>∃v:Nat,v<=4/\s43= .int .i64 (v:Int)/\s12= .int .i64 ((k / 2 ^ C.total ((T.aAa t).take v):Nat):Int)/\Hid (Below w3.heap.size w3 wr/\wr.heap[ge]? =some (.cells ((ekN t k v).map (Value.int .u32)).toArray 45 (0,0)))) (fun s _ _=>4- (intOf s).toNat)
    case atStart=>exact⟨0,by omega,rfl,by rw[H4.out.2.2.2,Nat.pow_zero,Nat.div_one],kH ⟨H4.out.1,H4.out.2.1⟩⟩
    case round=>
     obtain⟨v,hv4,rfl,rfl,HI⟩:=hrel
     by_cases hlt4:v<4
     ·obtain⟨z,hz⟩:∃z,(T.aAa t)[v]? =some z:=⟨_,zAB (by have:=Hp.out.2.1;omega)⟩;obtain⟨z0,z1⟩:=C.aCx Hp.out.1 hz;have hs:=aEp hz;have ht1:=C.aCp (T.aAa t) v (by have:=Hp.out.2.1;omega);have hea:=C.aF4 (T.aAa t) k v (by have:=Hp.out.2.1;omega);have hgd:(T.aAa t).getD v 0=z:=by rw[List.getD,hz];rfl
      rw[hgd]at ht1 hea;obtain⟨K,hK⟩:∃K,C.total ((T.aAa t).take v)=K:=⟨_,rfl⟩;obtain⟨m,rfl⟩:∃m:Nat,z=m:=⟨z.toNat,by omega⟩;rw[hK,zBA]at hs ht1 hea;rw[hK];obtain⟨q,hq⟩:∃q,k / 2 ^ K=q:=⟨_,rfl⟩;rw[hq]at hea⊢;have hqk:q<=k:=by rw[<-hq];exact Nat.div_le_self _ _
      have hm16:m<=16:=by have:=Hp.out.2.2.1;omega
      have hc:=(HI.out.1.cell (p:=⟨g,v,none⟩) (gA H3.out.2.1).1).trans (cell_of_row w3 g v _ _ (0,0) H3.out.2.1);rw[zAV,zAW,hz]at hc;have hc:wr.cell? ⟨g,v,none⟩=some (.int .i64 (m:Int)):=hc;have hv3:(v:Int) < 4:=by omega
      have hfz:wr.frozen? ⟨ge,v,none⟩=false:=aCm HI.out.2 _;have hcv:wr.cell? ⟨ge,v,none⟩=some (.int .u32 0):=by rw[cell_of_row _ _ _ _ _ (0,0) HI.out.2,zAV,zAW,aHa _ _ _ hlt4,if_neg (by omega)];rfl
      have Hs:=kH (And.intro hs (And.intro hea hq));clear hs ht1 hK hz hea hgd hq;have hmask:=aZ3 (q:=q) (m:=m) (by omega) hm16;have Hmask:=kH hmask;clear hmask;go_wp2;rw[Hmask.out];go_roundw
      case rel=>
       refine⟨v+1,by omega,by go_num,?_,kH ⟨HI.out.1.setCell (p:=⟨ge,v,none⟩) H4.out.2.2.1 _,?_⟩⟩
       ·rw[Hs.out.1,Nat.pow_add,<-Nat.div_div_eq_div_mul,Hs.out.2.2]
        congr 1
       ·rw[heap_setCell_same wr ge v _ _ _ HI.out.2,<-aO1 t k hlt4,Hs.out.2.1,List.map_set];simp
      case measure=>simp[intOf];omega
     ·obtain rfl:v=4:=by omega
      have hrow:=HI.out.2;rw[aMv]at hrow;have hel:(C.envK (T.aAa t) k).length=4:=by rw[C.aE6];exact Hp.out.2.1
      have hsl:=aGw hrow (by rw[hel];omega);rw[hel]at hsl;have hbw:Below W.heap.size W wr:=H3.out.1.trans (HI.out.1.mono (zBK H3.out.1.size (zBJ _)));have hev:=aZ7 t (C.envK (T.aAa t) k) n ct 4 At (some ⟨ge,0,none⟩) wr (HT.out.below aAh hbw) hsl Hp.out.2.2.2.2.1 (C.aDt Hp.out.1 k) Hsm.out;have hrv:(T.vals t (C.envK (T.aAa t) k)).getD (n-1) 0=C.rv t (C.envK (T.aAa t) k):=by unfold C.rv;rw[Hp.out.2.2.2.2.2]
      rw[hrv]at hev;obtain⟨rvv,hrvv⟩:∃r,C.rv t (C.envK (T.aAa t) k)=r:=⟨_,rfl⟩;rw[hrvv]at hev;have Hev:=kH hev;have Hr:=kH (And.intro hrvv HI.out.1);have hcn:=C.aHk t k;obtain⟨cn,hcn'⟩:∃c,C.cntTo t k=c:=⟨_,rfl⟩;rw[hcn']at hcn⊢;have Hcn:=kH hcn';have hwk:IntKind.i64.wrap ((cn:Int)+1)=((cn+1:Nat):Int):=by rw[IntWalk.i64_in _ (by omega)];omega
      clear hrow hel hsl hbw hev hrv hrvv hcn' HI
      by_cases h1:rvv=1
      ·subst h1
       go_wp2_with fail
       refine Hev.out.mono ?_;rintro e w5 ⟨rfl,hb5⟩;have Hb5:=kH (Hr.out.2.trans (hb5.mono Hr.out.2.size));clear hb5 Hev;go_wp2;go_roundw
       case rel=>exact⟨k+1,by omega,by go_num,by rw[C.cntTo,if_pos Hr.out.1,Hcn.out,Int.natCast_add];rfl,Hb5⟩
       case measure=>simp[intOf];omega
      ·have hq1:(rvv == 1)=false:=by simpa using h1
       have hne:=kH h1
       go_wp2_with fail
       refine Hev.out.mono ?_;rintro e w5 ⟨rfl,hb5⟩;have Hb5:=kH (Hr.out.2.trans (hb5.mono Hr.out.2.size));clear hb5 Hev h1;go_wp2;go_roundw
       case rel=>exact⟨k+1,by omega,by go_num,by rw[C.cntTo,if_neg (by rw[Hr.out.1];exact hne.out),Hcn.out,zBI],Hb5⟩
       case measure=>simp[intOf];omega
   ·obtain rfl:k=p:=by omega
    have hcn:C.cntTo t k=C.cntTo t (C.nEnv t):=by unfold C.nEnv;rw[Hp.out.2.2.2.1]
    rw[hcn];clear hcn hmk;go_wp2;go_ret2;exact⟨rfl,H3.out.1.trans (HL.out.mono H3.out.1.size)⟩
end
section
theorem aUp:aAb lt2=0:=by decide +kernel
end
section
open Go.RowKit
theorem aAt(W:World):Calls prog 11 #[] W fun e W'=>e= .returned (.bool true)/\Below W.heap.size W W':=
 aS0 (fun A X h=>aXu lt2 3 3 A X h (by decide) aUp (by decide)) W
end
section
open Go.RowKit Go.MapKept Go.Maps Go.WideMaps
theorem WdAt.bel{w w':World}{tg:TgF}{A:Option Addr}{c:Nat}{l:List Int}(h:WdAt w tg A c l)(hb:Below w.heap.size w w'):WdAt w' tg A c l:=⟨h.1.below hb h.1.lt,h.2⟩
end
section
open Go.RowKit Go.MapKept Go.Maps Go.WideMaps
theorem BAt.reads{w:World}{B0 Bb Mb:Nat}{tg:TgF}{vc:Value}{b:C.Bd}(h:BAt w B0 Bb Mb tg vc b):∃A cap,vc= .slice A b.cls.length cap/\SlAt (SlR (IntR .i64)) w A b.cls.length b.cls:=by
 obtain⟨us,c1,c2⟩:=h.cl;refine aMq c1.1 (by have:=c2.1;simpa using this) fun k c hc=>?_
 obtain⟨u,hu,ho,_⟩:=c2.2 k (siv c) (by rw[zAW,hc];rfl);rw[aBu]at ho;exact⟨u,hu,ho⟩
end
section
open Go.RowKit Go.MapKept Go.Maps Go.WideMaps
theorem aGp{fn:Func}{t u v x y:Tmp}(h:fn.results= #[.tmp t, .tmp u, .tmp v, .tmp x, .tmp y])(tmps:Array Value)(P:Program)(w:World):
 (results fn tmps).run P w= .ok (.tuple #[tmps.getD t undef,tmps.getD u undef,tmps.getD v undef,tmps.getD x undef,tmps.getD y undef]) w:=by
 simp[results,h]
theorem bFs{w:World}{T T':TypeId}{s s' n m:Nat}{v u:Value}{xs ys:List Value}(hT:T≠T')(h:OwnAt w T s v n xs)(k:OwnAt w T' s' u m ys){g:Nat}(e1:v.ownBlock=some g)(e2:u.ownBlock=some g):False:=by
 rcases h.2 with⟨q,_⟩ |⟨g1,o1,c1,cur1,q,hc1,_⟩
 ·rw[q]at e1;cases e1
 ·rcases k.2 with⟨r,_⟩ |⟨g2,o2,c2,cur2,r,hc2,_⟩
  ·rw[r]at e2;cases e2
  ·rw[q]at e1;rw[r]at e2;have e1:g1=g:=by simpa[Value.ownBlock]using e1
   have e2:g2=g:=by simpa[Value.ownBlock]using e2
   subst e1 e2;rw[hc1]at hc2;injection hc2 with hc2
   injection hc2 with _ h3 _
   exact hT h3
structure ClI(w2 wr:World)(vars:List (List Int))(v:Nat)(vv:Value)(us:List Value):Prop where
 bl:Below w2.heap.size w2 wr
 own:OwnAt wr 37 1 vv v us
 len:us.length=v
 fr:∀g,vv.ownBlock=some g->w2.heap.size<=g
 el:∀(i:Nat) (l:List Int),i<v->vars[i]? =some l->∃u:Value,us[i]? =some u/\OwnAt wr 3 1 u l.length (siv l)
theorem ClI.step{w2 wr w3 w5:World}{vars:List (List Int)}{v:Nat}{vv v':Value}{us:List Value}{l:List Int}{u:Value}(h:ClI w2 wr vars v vv us)(hl:vars[v]? =some l)
 (hb:Below wr.heap.size wr w3) (hu:OwnAt w3 3 1 u l.length (siv l)) (hown:OwnAt w5 37 1 v' (v+1) (us ++ [u]))
 (hg:(w3.alloc (.cells #[u] 37)).grownBy w5 vv.ownBlock) (hat:v'.ownBlock=vv.ownBlock\/v'.ownBlock=some (w3.alloc (.cells #[u] 37)).heap.size):ClI w2 w5 vars (v+1) v' (us ++ [u]):=by
 have hb4:Below w2.heap.size w2 (w3.alloc (.cells #[u] 37)):=(h.bl.trans (hb.mono h.bl.size)).alloc (zBK h.bl.size hb.size) _;have hw3:∀g,g<w3.heap.size->(w3.alloc (.cells #[u] 37)).heap[g]? =w3.heap[g]? :=fun g hg=>Below.heap_alloc w3 _ _ hg
 have hov:OwnAt w3 37 1 vv v us:=h.own.below hb h.own.lt;have hkeep:∀{x:Value} {m:List Int},OwnAt w3 3 1 x m.length (siv m)->OwnAt w5 3 1 x m.length (siv m):=fun{x m} hx=>hx.same fun g hgx=>by
  have hlt:=hx.lt g hgx;refine(hg.block g (by rw[World.size_alloc];omega) (fun e=>?_)).trans (hw3 g hlt);exact bFs (by decide) hov hx e.symm hgx
 refine⟨hb4.grown hg hb4.size h.fr,hown,by simp[h.len],fun g hg'=>?_,fun i m hi hm=>?_⟩
 ·rcases hat with q | q
  ·exact h.fr g (q.symm.trans hg')
  ·rw[q]at hg';cases hg';exact hb4.size
 ·rcases Nat.lt_or_ge i v with hlt | hge
  ·obtain⟨x,h1,h2⟩:=h.el i m hlt hm;exact⟨x,by rw[zAE (by rw[h.len];exact hlt)];exact h1,hkeep (h2.below hb h2.lt)⟩
  ·obtain rfl:i=v:=by omega
   rw[hl]at hm;obtain rfl:=zAH hm;exact⟨u,by rw[zAF (by rw[h.len];exact zBJ _),h.len,zBG];rfl,hkeep hu⟩
theorem bEj(a b c d:Value)(w:World):(Instr.index 70 (.agg #[a,b,c,d]) (.int .i64 ((0:Nat):Int))).run prog w= .ok a w:=by kernel_rfl
theorem bEk(a b c d:Value)(w:World):(Instr.index 70 (.agg #[a,b,c,d]) (.int .i64 ((1:Nat):Int))).run prog w= .ok b w:=by kernel_rfl
theorem bEl(a b c d:Value)(w:World):(Instr.index 70 (.agg #[a,b,c,d]) (.int .i64 ((2:Nat):Int))).run prog w= .ok c w:=by kernel_rfl
theorem bEm(a b c d:Value)(w:World):(Instr.index 70 (.agg #[a,b,c,d]) (.int .i64 ((3:Nat):Int))).run prog w= .ok d w:=by kernel_rfl
def bC8(t:List T.Nd)(W:World)(e:Ending)(w':World):Prop:=
 Below W.heap.size W w'/\((T.valid true t≠0/\e= .returned (.tuple #[.int .i64 0, .slice none 0 0, .slice none 0 0, .int .i64 0, .int .i64 (T.valid true t)]))\/
  (T.valid true t=0/\C.build t=none/\e= .returned (.tuple #[.int .i64 0, .slice none 0 0, .slice none 0 0, .int .i64 0, .int .i64 3]))\/
  (T.valid true t=0/\∃c A cap A' cap',C.build t=some c/\C.Bo c.b/\e= .returned (.tuple #[.int .i64 (c.b.n:Int), .slice A c.b.cls.length cap, .slice A' 4 cap', .int .i64 c.root, .int .i64 0])/\
   SlAt (SlR (IntR .i64)) w' A c.b.cls.length c.b.cls/\SlAt (SlR (IntR .i64)) w' A' 4 (C.aAj (T.aAa t) 0)))
theorem aL3(t:List T.Nd)(n ct:Nat)(At:Option Addr)(W:World)(hT:StAt 5 NdR W At n t):
 Calls prog 20 #[.slice At n ct] W (bC8 t W):=by
 have HVl:=kH (aEz t n ct At W hT);have Hi:=kH (aBq hT);have HB:=kH (fun(h:T.valid true t=0) X (hX:Below W.heap.size W X)=>aN3 t n ct At X (hT.below aAh hX) h);obtain⟨ve,hve⟩:∃c,T.valid true t=c:=⟨_,rfl⟩;rw[hve]at HVl;have Hve:=kH hve;clear hT hve
 by_cases h0:ve=0
 ·subst h0
  go_enter func20,ntmps20
  go_wp2_with fail
  refine HVl.out.mono ?_;rintro e w1 ⟨rfl,hb1⟩;have HBk:=kH (HB.out Hve.out w1 hb1);have Hb1:=kH hb1;clear hb1 HVl HB
  go_wp2_with fail
  refine HBk.out.mono ?_;rintro e w2 ⟨hb2,⟨hbn,rfl⟩ |⟨c,Cb,Bb,Mb,Wb,tg,vc,words,hbs,rfl,b2,hct,hC2⟩⟩
  ·have Hf:=kH (And.intro (Hb1.out.trans (hb2.mono Hb1.out.size)) hbn);clear hb2 hbn HBk;go_wp2;refine bodyPost_ret (aGp rfl _ _ _) rfl ?_;exact⟨Hf.out.1, .inr (.inl ⟨Hve.out,Hf.out.2,rfl⟩)⟩
  ·obtain⟨Ac,cc,rfl,hcl⟩:=b2.reads;have htm:=(C.tm_of Hve.out Hi.out).1;have hsy:=C.aIm htm (C.tm_of Hve.out Hi.out).2 hbs;have hwl:=T.aA9 t;obtain⟨rt,hrt⟩:∃r,c.root=r:=⟨_,rfl⟩;obtain⟨n0,hn0⟩:∃m,c.b.n=m:=⟨_,rfl⟩;obtain⟨m0,hm0⟩:∃m,c.b.cls.length=m:=⟨_,rfl⟩;have hn4:n0<=4000:=by rw[<-hn0];exact b2.bo.n
   have q0:=hct.cb.2.2;have q1:=b2.c0;have q2:=b2.c1;rw[hsy.vars]at hct;rw[hn0]at q1;rw[hm0]at q2;rw[hrt];have HS0:=kH (And.intro q0 (And.intro q1 q2));have Hk:=kH (And.intro (Hb1.out.trans (hb2.mono Hb1.out.size)) (And.intro hct (And.intro hcl (And.intro hbs (And.intro b2.bo (And.intro hrt (And.intro hn0 hm0)))))));have HBl:=kH (And.intro hct.ltC (b2.lt Bb _ b2.st.2).2);have hvl:(C.aAj (T.aAa t) 0).length=4:=by rw[C.aCc];exact hwl
   have hV:∀v,v<4->∃A c,w2.cell? ⟨Cb,1+v,none⟩=some (.slice A ((C.aAj (T.aAa t) 0).getD v []).length c)/\WdAt w2 tg A c ((C.aAj (T.aAa t) 0).getD v []):=fun v hv=>hct.var (by rw[List.getD,zAB (by omega)];rfl)
   have hsm:∀v,v<4->((C.aAj (T.aAa t) 0).getD v []).length<=32:=fun v hv=>by
    have h1:=C.aC6 (T.aAa t) 0 v (by omega);rw[h1];have h2:=C.aCx htm (zAB (show v<(T.aAa t).length by omega));have h3:(T.aAa t).getD v 0=(T.aAa t)[v]'(by omega):=by rw[List.getD,zAB (by omega)];rfl
    rw[h3];simp only[C.aAz,zAY,List.length_range];omega
   obtain⟨A0,c0,e0,d0⟩:=hV 0 (by omega);obtain⟨A1,c1,e1,d1⟩:=hV 1 (by omega);obtain⟨A2',c2',e2,d2⟩:=hV 2 (by omega);obtain⟨A3,c3,e3,d3⟩:=hV 3 (by omega);obtain⟨L0,hL0⟩:∃L,((C.aAj (T.aAa t) 0).getD 0 []).length=L:=⟨_,rfl⟩;obtain⟨L1,hL1⟩:∃L,((C.aAj (T.aAa t) 0).getD 1 []).length=L:=⟨_,rfl⟩;obtain⟨L2,hL2⟩:∃L,((C.aAj (T.aAa t) 0).getD 2 []).length=L:=⟨_,rfl⟩;obtain⟨L3,hL3⟩:∃L,((C.aAj (T.aAa t) 0).getD 3 []).length=L:=⟨_,rfl⟩;rw[hL0]at e0;rw[hL1]at e1;rw[hL2]at e2;rw[hL3]at e3;have e0:w2.cell? ⟨Cb,1,none⟩=_:=e0;have e1:w2.cell? ⟨Cb,2,none⟩=_:=e1;have e2:w2.cell? ⟨Cb,3,none⟩=_:=e2;have e3:w2.cell? ⟨Cb,4,none⟩=_:=e3;obtain⟨ag,hag⟩:∃ag:Array Value,ag= #[.slice A0 L0 c0, .slice A1 L1 c1, .slice A2' L2 c2', .slice A3 L3 c3]:=⟨_,rfl⟩;have HV:=kH (show∀v:Nat,v<4->∃A c,(∀X,(Instr.index 70 (.agg ag) (.int .i64 (v:Int))).run prog X= .ok (.slice A ((C.aAj (T.aAa t) 0).getD v []).length c) X)/\WdAt w2 tg A c ((C.aAj (T.aAa t) 0).getD v [])from by
    intro v hv;rcases(show v=0\/v=1\/v=2\/v=3 by omega)with rfl | rfl | rfl | rfl
    ·exact⟨A0,c0,fun X=>by rw[hag,hL0];exact bEj _ _ _ _ X,d0⟩
    ·exact⟨A1,c1,fun X=>by rw[hag,hL1];exact bEk _ _ _ _ X,d1⟩
    ·exact⟨A2',c2',fun X=>by rw[hag,hL2];exact bEl _ _ _ _ X,d2⟩
    ·exact⟨A3,c3,fun X=>by rw[hag,hL3];exact bEm _ _ _ _ X,d3⟩)
   have H3:=kH (And.intro hsm hvl);clear hV d0 d1 d2 d3 hL0 hL1 hL2 hL3 hsm hvl htm hsy hwl hcl hct b2 hb2 hC2 hrt hn0 hm0 hbs q0 q1 q2 HBk
   go_upto_region 9 with(fail)
   rw[<-hag];clear e0 e1 e2 e3 hag
   go_loopw [32,11] (fun s32 s11 wr=>∃v:Nat,v<=4/\s32= .int .i64 (v:Int)/\∃Av cv us,s11= .slice Av v cv/\Hid (ClI w2 wr (C.aAj (T.aAa t) 0) v (.slice Av v cv) us)) (fun s _ _=>4- (intOf s).toNat)
   case atStart=>exact⟨0,by omega,rfl,none,0, [],rfl,kH ⟨Below.refl _ _,OwnAt.nil_ _ _ _,rfl,(fun g hg=>by simp[Value.ownBlock]at hg),(fun i l hi=>by omega)⟩⟩
   case round=>
    obtain⟨v,hv4,rfl,As,cs,us,rfl,HL⟩:=hrel
    by_cases hlt:v<4
    ·obtain⟨Av,cv,hix,hwd⟩:=HV.out v hlt;have hl32:=H3.out.1 v hlt;have hvv:(C.aAj (T.aAa t) 0)[v]? =some ((C.aAj (T.aAa t) 0).getD v []):=by rw[List.getD,zAB (by have:=H3.out.2;omega)];rfl
     have Hcl:=kH (aDl (hwd.bel HL.out.bl) (by omega));obtain⟨L,hL⟩:∃L,((C.aAj (T.aAa t) 0).getD v []).length=L:=⟨_,rfl⟩;have Hq:=kH (And.intro hL hvv);rw[hL]at hix Hcl;have hv3:(v:Int) < 4:=by omega
     clear hwd hl32 hL hvv
     go_wp2_with fail
     refine Hcl.out.mono ?_;rintro e w3 ⟨A4,c4,rfl,k2,k1,k3⟩;rw[Hq.out.1]at k1;rw[Hq.out.1];have Hk1:=kH (And.intro k1 k2);have hov:OwnAt w3 37 1 (.slice As v cs) v us:=HL.out.own.below k2 HL.out.own.lt;have Hov:=kH (hov.alloc (.cells #[.slice A4 L c4] 37));clear hov k1 k2 k3 Hcl;have hnew:(w3.alloc (.cells #[.slice A4 L c4] 37)).cell? ⟨w3.heap.size,0,none⟩=some (.slice A4 L c4):=by rw[cell_of_row _ _ _ _ _ (0,0) (heap_alloc_new w3 _)];rfl
     have Hnew:=kH hnew;clear hnew
     go_wp2_with (at_builtin;refine aBv _ rfl (.tmp 35) (.tmp 38) 25 rfl 37 (.slice none 0 0) 1 24 underlying25 Tryz.sinfoInts rfl (by omega) (.slice As v cs) v us rfl Hov.out (some ⟨w3.heap.size,0,none⟩) 1 1 [.slice A4 L c4] rfl rfl (fun j u hu=>by
      have hj:j=0:=by have:=(zAA.1 hu).1;simp at this;exact this
      subst hj;obtain rfl:=zAH hu;exact⟨_,rfl,Hnew.out⟩) (fun u hu=>by rw[zBD.1 hu];rfl) (by omega) (by omega) ?_;intro v' w5 hown hgr hat)
     have hCl:=HL.out.step Hq.out.2 Hk1.out.2 (by rw[Hq.out.1];exact Hk1.out.1) hown hgr hat;obtain⟨A5,c5,rfl⟩:=hown.form;have HCl:=kH hCl;clear hown hgr hat hCl;go_wp2;go_roundw
     case rel=>exact⟨v+1,by omega,by go_num,A5,c5,us ++ [.slice A4 L c4],rfl,HCl⟩
     case measure=>simp[intOf];omega
    ·obtain rfl:v=4:=by omega
     have hb:=HL.out.bl;have f0:=(hb.cell (p:=⟨Cb,0,none⟩) HBl.out.1).trans HS0.out.1;have f1:=(hb.cell (p:=⟨Bb,0,none⟩) HBl.out.2).trans HS0.out.2.1;have f2:=(hb.cell (p:=⟨Bb,1,none⟩) HBl.out.2).trans HS0.out.2.2;have Hb:=kH hb;clear hb
     go_upto_region 13 with(fail)
     go_quiet (fail)
     go_wp2;refine bodyPost_ret (aGp rfl _ _ _) rfl ?_;obtain⟨A6,c6,e6,hsl⟩:=aMq (cs:=C.aAj (T.aAa t) 0) (by rw[H3.out.2];exact HL.out.own) (by rw[HL.out.len,H3.out.2]) (fun k l hk=>HL.out.el k l (by have:=(zAA.1 hk).1;have:=H3.out.2;omega) hk);rw[H3.out.2]at e6 hsl;injection e6 with e7 _ e8
     subst e7 e8;have hdn:∀q,Below w2.heap.size w2 (wr.drewN q):=fun q=>Hb.out.trans ⟨rfl,rfl,rfl,zBJ _,fun _ _=>rfl⟩
     have hcls:=fun q=>Hk.out.2.2.1.below aCd (hdn q)
     exact⟨Hk.out.1.trans ((hdn _).mono Hk.out.1.size), .inr (.inr ⟨Hve.out,c,Ac,cc,As,cs,Hk.out.2.2.2.1,Hk.out.2.2.2.2.1,by rw[Hk.out.2.2.2.2.2.1,Hk.out.2.2.2.2.2.2.1,Hk.out.2.2.2.2.2.2.2];rfl,hcls _,hsl⟩)⟩
 ·have hq:(ve == 0)=false:=by simpa using h0
  have hq2:(ve != 0)=true:=by simpa using h0
  have Hne:=kH h0;clear h0
  go_enter func20,ntmps20
  go_wp2_with fail
  refine HVl.out.mono ?_;rintro e w1 ⟨rfl,hb1⟩;have Hb1:=kH hb1;clear hb1 HVl HB;go_wp2;refine bodyPost_ret (aGp rfl _ _ _) rfl ?_;exact⟨Hb1.out, .inl ⟨by rw[Hve.out];exact Hne.out,by rw[Hve.out];rfl⟩⟩
end
section
open Go.RowKit
section
variable {w w' : World} {B O n : Nat} {of : List Int} {conf : Bool}
theorem StAt9.same(h:StAt9 w B O n of conf)(h1:w'.heap[B]? =w.heap[B]?)(h2:w'.heap[O]? =w.heap[O]?):StAt9 w' B O n of conf:=⟨h1.trans h.st,h2.trans h.nums,h.len,h.ne⟩
theorem StAt9.ltB(h:StAt9 w B O n of conf):B<w.heap.size:=(gA h.st).1
theorem StAt9.ltO(h:StAt9 w B O n of conf):O<w.heap.size:=(gA h.nums).1
end
namespace S
noncomputable def derB(cs:List (List Int))(given:List Int)(l:Int):Bool:= @decide (Der cs given l) (Classical.propDecidable _)
theorem aEe{cs:List (List Int)}{given:List Int}{l:Int}:derB cs given l=true↔Der cs given l:=by unfold derB;exact @decide_eq_true_iff _ (Classical.propDecidable _)
def below(n:Nat)(k:Nat):List Int:=(List.range k).map fun(j:Nat)=> -(n:Int)+(j:Int)
def above(k:Nat):List Int:=(List.range k).map fun(j:Nat)=>(j:Int)+1
noncomputable def aB8(n:Nat)(cs:List (List Int))(given:List Int):List Int:=(below n n).filter (derB cs given)++(above n).filter (derB cs given)
theorem aGz(n k:Nat):below n (k+1)=below n k ++ [-(n:Int)+k]:=by simp[below,List.range_succ]
theorem aJh(k:Nat):above (k+1)=above k ++ [(k:Int)+1]:=by simp[above,List.range_succ]
noncomputable def aDi(n:Int)(cs:List (List Int))(given:List Int):List Int×Bool×Int:=
 if aAe n cs≠0 then([],false,aAe n cs)else if isClause n given=false then([],false,1)else
 if @decide (aA2 cs given) (Classical.propDecidable _)=true then([],true,0)else(aB8 n.toNat cs given,false,0)
theorem aO6{n:Nat}{cs:List (List Int)}{given:List Int}(h0:aAe n cs=0)(hg:isClause n given=true)(h:aA2 cs given):aDi n cs given=([],true,0):=by
 rw[aDi,if_neg (by simp[h0]),if_neg (by simp[hg]),if_pos];exact(@decide_eq_true_iff _ (Classical.propDecidable _)).2 h
theorem aK4{n:Nat}{cs:List (List Int)}{given:List Int}(h0:aAe n cs=0)(hg:isClause n given=true)(h:¬aA2 cs given):aDi n cs given=(aB8 n cs given,false,0):=by
 rw[aDi,if_neg (by simp[h0]),if_neg (by simp[hg]),if_neg]
 ·simp
 ·intro hd;exact h ((@decide_eq_true_iff _ (Classical.propDecidable _)).1 hd)
def Says(cs:List (List Int))(given:List Int)(n:Nat)(of:List Int):Prop:=Wf n of/\∀l,isLit n l=true->(val of l=1↔Der cs given l)
theorem Says.neg{cs:List (List Int)}{given:List Int}{n:Nat}{of:List Int}(h:Says cs given n of){v:Nat}(h1:1<=v)(h2:v<=n):derB cs given (-(v:Int))=decide (of.getD v 0<0):=by
 have hl:isLit n (-(v:Int))=true:=by simp only[isLit,zBQ];omega
 have:=h.2 _ hl;have hv:val of (-(v:Int))= - of.getD v 0:=by simp only[val,Int.neg_neg,zBA];rw[if_neg (by omega)]
 rw[hv]at this;have ht:=h.1.tri v;rw[Bool.eq_iff_iff,aEe,<-this,zBQ];omega
theorem Says.pos{cs:List (List Int)}{given:List Int}{n:Nat}{of:List Int}(h:Says cs given n of){v:Nat}(h1:1<=v)(h2:v<=n):derB cs given (v:Int)=decide (0<of.getD v 0):=by
 have hl:isLit n (v:Int)=true:=by simp only[isLit,zBQ];omega
 have:=h.2 _ hl;have hv:val of (v:Int)=of.getD v 0:=by simp only[val,zBA];rw[if_pos (by omega)]
 rw[hv]at this;have ht:=h.1.tri v;rw[Bool.eq_iff_iff,aEe,<-this,zBQ];omega
end S
def aOd(w:World)(r:List Int×Bool×Int)(e:Ending)(w':World):Prop:=
 ∃A c,e= .returned (.tuple #[.slice A r.1.length c, .bool r.2.1, .int .i64 r.2.2])/\SlAt (IntR .i64) w' A r.1.length r.1/\Below w.heap.size w w'
theorem aDn{l:List Int}{p:Int->Bool}{x:Int}(h:p x=true):(l ++ [x]).filter p=l.filter p ++ [x]:=by rw[List.filter_append];simp[h]
theorem aGr{l:List Int}{p:Int->Bool}{x:Int}(h:p x=false):(l ++ [x]).filter p=l.filter p:=by rw[List.filter_append];simp[h]
theorem aJz(n k:Nat)(p:Int->Bool):((S.below n k).filter p).length<=k:=by
 have:=List.length_filter_le p (S.below n k);simpa[S.below]using this
theorem aJ0(k:Nat)(p:Int->Bool):((S.above k).filter p).length<=k:=by
 have:=List.length_filter_le p (S.above k);simpa[S.above]using this
theorem aTb(n:Int)(A D:Option Addr)(m c p d:Nat)(cs:List (List Int))(given:List Int)(w:World)(hA:SlAt (SlR (IntR .i64)) w A m cs)(hD:SlAt (IntR .i64) w D p given):
 Calls prog 26 #[.int .i64 n, .slice A m c, .slice D p d] w (aOd w (S.aDi n cs given)):=by
 have Hcon:=kH (aFy n A m c cs w hA);have HA:=kH hA;clear hA;have HD:=kH hD;clear hD;obtain⟨v,hv⟩:∃v,v=S.aAe n cs:=⟨_,rfl⟩;rw[<-hv]at Hcon
 by_cases h0:v=0
 case neg=>
  have hb:(v != 0)=true:=by simpa using h0
  have e1:S.aDi n cs given=([],false,v):=by rw[S.aDi,if_pos (by rw[<-hv];exact h0),hv]
  rw[e1];clear hv e1 h0
  go_enter func26,ntmps26
  go_wp2_with fail
  refine Hcon.out.mono ?_;rintro e w' ⟨rfl,rfl⟩;go_wp2
  go_ret3
  exact⟨none,0,rfl,SlAt.nil_ _,Below.refl _ _⟩
 subst h0;obtain⟨hn0,hn4,_,hcl⟩:=aDo hv.symm;obtain⟨N,rfl⟩:∃N:Nat,n=N:=⟨n.toNat,by omega⟩;have Hcon2:=kH (aHz N D p d given w HD.out (by omega) (by omega));have Hv:=kH hv.symm;clear hv;have HC:=kH hcl;clear hcl;cases hg:S.isClause N given
 ·rw[hg]at Hcon2;have e1:S.aDi N cs given=([],false,1):=by rw[S.aDi,if_neg (by rw[Hv.out];simp),if_pos hg]
  rw[e1];clear e1 hg
  go_enter func26,ntmps26
  go_wp2_with fail
  refine Hcon.out.mono ?_;rintro e w' ⟨rfl,rfl⟩
  go_wp2_with fail
  refine Hcon2.out.mono ?_;rintro e w' ⟨rfl,rfl⟩;go_wp2
  go_ret3
  exact⟨none,0,rfl,SlAt.nil_ _,Below.refl _ _⟩
 rw[hg]at Hcon2;have Hcon3:=kH (aP9 N A D m c p d cs given w HA.out HD.out HC.out hg (by omega));have HG:=kH hg;clear hg
 go_enter func26,ntmps26
 go_wp2_with fail
 refine Hcon.out.mono ?_;rintro e w' ⟨rfl,rfl⟩
 go_wp2_with fail
 refine Hcon2.out.mono ?_;rintro e w' ⟨rfl,rfl⟩
 go_wp2_with fail
 refine Hcon3.out.mono ?_;rintro e w1 ⟨B,O,of,conf,rfl,hst,hb1,hwf,hpost⟩;have Hst:=kH hst;clear hst;rcases hpost with⟨rfl,hinc⟩ |⟨rfl,hinc,hsay⟩
 ·have Hinc:=kH hinc;clear hinc;have hc1:=Hst.out.c1;go_wp2
  go_ret3
  rw[S.aO6 Hv.out HG.out Hinc.out];exact⟨none,0,rfl,SlAt.nil_ _,hb1⟩
 ·have Hinc:=kH hinc;clear hinc;have HS:=kH (show S.Says cs given N of from⟨hwf,hsay⟩);clear hsay hwf;have hc1:=Hst.out.c1;have hc0:=Hst.out.c0;have hsB:=Hst.out.ltB;have hsO:=Hst.out.ltO;go_wp2;clear hc1 hc0
  go_loopg [11,12] (N+1) (fun g v i wr=>∃k vn L:Nat,vn+k=N/\i= .int .i64 (vn:Int)/\g=vn+1/\L=((S.below N k).filter (S.derB cs given)).length/\OwnAt wr 3 1 v L (((S.below N k).filter (S.derB cs given)).map (Value.int .i64))/\Below w1.heap.size w1 wr/\(∀g,v.ownBlock=some g->w1.heap.size<=g))
  case atStart=>exact⟨0,N,0,rfl,rfl,rfl,rfl,OwnAt.nil_ _ _ _,Below.refl _ _,fun g hg=>by simp[Value.ownBlock]at hg⟩
  case round=>
   rename_i v0 _;obtain⟨k,vn,L,hkv,rfl,hgk,hL,hown,hbw,hob⟩:=hrel;have Hgk:=kH hgk;clear hgk;have Hown:=kH hown;clear hown;have Hob:=kH hob;clear hob;have Hkv:=kH hkv;have HL:=kH hL;have hLk:L<=k:=by rw[hL];exact aJz _ _ _
   have hvN:vn<=N:=by omega
   have hkN:k<=N:=by omega
   clear hL hkv;have hst2:StAt9 wr B O N of false:=Hst.out.same (hbw.block B hsB) (hbw.block O hsO)
   by_cases hlt:1<=vn
   ·have hc0:=hst2.c0;have hcn:=hst2.cn hvN;obtain⟨x,hx⟩:∃x,x=of.getD vn 0:=⟨_,rfl⟩;rw[<-hx]at hcn;have hneg:=HS.out.neg hlt hvN;rw[<-hx]at hneg;have Hneg:=kH hneg;clear hneg hst2 hx;obtain⟨u,rfl⟩:∃u,vn=u+1:=⟨vn-1,by omega⟩
    by_cases hxn:x<0
    ·go_wp2_with (at_builtin;refine aAk _ rfl (.tmp 45) (.tmp 48) 37 rfl 3 (.int .i64 0) 8 underlying37 Tryz.infoInt rfl _ L _ rfl Hown.out (.int .i64 (-((u:Int)+1))) rfl 3 rfl (by omega) (by omega) ?_;intro v' w2 hown' hgr hat)
     have Hown':=kH hown'.appended;clear hown';obtain⟨hb2,hv2⟩:=aCw hbw hbw.size Hob.out hgr hat;have Hv2:=kH hv2;clear hv2 hgr hat;go_wp2
     go_roundg (gk-1)
     case measure=>have:=Hgk.out;omega
     case rel=>
      have e1:=Hkv.out;have e2:=Hgk.out;refine⟨k+1,u,L+1,by omega,by go_num,by omega,?_,?_,hb2,Hv2.out⟩
      ·rw[S.aGz,aDn (by rw[show -(N:Int)+k= -((u+1:Nat):Int)from by omega,Hneg.out];simpa using hxn)];simp[HL.out]
      ·rw[S.aGz,aDn (by rw[show -(N:Int)+k= -((u+1:Nat):Int)from by omega,Hneg.out];simpa using hxn),show -(N:Int)+k= -((u:Int)+1)from by omega];exact Hown'.out
    ·go_wp2
     go_roundg (gk-1)
     case measure=>have:=Hgk.out;omega
     case rel=>
      have e1:=Hkv.out;have e2:=Hgk.out;have e3:(S.below N (k+1)).filter (S.derB cs given)=(S.below N k).filter (S.derB cs given):=by
       rw[S.aGz,aGr (by rw[show -(N:Int)+k= -((u+1:Nat):Int)from by omega,Hneg.out];simp;omega)]
      refine⟨k+1,u,L,by omega,by go_num,by omega,by rw[e3];exact HL.out,by rw[e3];exact Hown.out,hbw,Hob.out⟩
   ·obtain rfl:vn=0:=by omega
    obtain rfl:k=N:=by have:=Hkv.out;omega
    clear hst2;go_wp2
    go_loopg [11,13] (k+1) (fun g v i wr=>∃j M:Nat,j<=k/\i= .int .i64 ((j:Int)+1)/\g+j=k+1/\M=L+((S.above j).filter (S.derB cs given)).length/\OwnAt wr 3 1 v M ((((S.below k k).filter (S.derB cs given))++((S.above j).filter (S.derB cs given))).map (Value.int .i64))/\Below w1.heap.size w1 wr/\(∀g,v.ownBlock=some g->w1.heap.size<=g))
    case atStart=>exact⟨0,L,zBL _,by go_num,rfl,rfl,by have:=Hown.out;simpa[S.above]using this,hbw,Hob.out⟩
    case round=>
     clear hbw Hob Hown Hgk;rename_i v1 _;obtain⟨j,M,hj,rfl,hgk,hM,hown,hbw,hob⟩:=hrel;have Hgk:=kH hgk;clear hgk;have Hown:=kH hown;clear hown;have Hob:=kH hob;clear hob;have HM:=kH hM;have hMk:M<=L+j:=by rw[hM];have:=aJ0 j (S.derB cs given);omega
     clear hM;have hst2:StAt9 wr B O k of false:=Hst.out.same (hbw.block B hsB) (hbw.block O hsO)
     by_cases hlt:j<k
     ·have hc0:=hst2.c0;have hcn:=hst2.cn (k:=j+1) (by omega);obtain⟨x,hx⟩:∃x,x=of.getD (j+1) 0:=⟨_,rfl⟩;rw[<-hx]at hcn;have hpos:=HS.out.pos (v:=j+1) (by omega) (by omega);rw[<-hx]at hpos;have Hpos:=kH hpos;clear hpos hst2 hx
      by_cases hxn:0<x
      ·go_wp2_with (at_builtin;refine aAk _ rfl (.tmp 63) (.tmp 65) 37 rfl 3 (.int .i64 0) 8 underlying37 Tryz.infoInt rfl _ M _ rfl Hown.out (.int .i64 ((j:Int)+1)) rfl 3 rfl (by omega) (by omega) ?_;intro v' w2 hown' hgr hat)
       have Hown':=kH hown'.appended;clear hown';obtain⟨hb2,hv2⟩:=aCw hbw hbw.size Hob.out hgr hat;have Hv2:=kH hv2;clear hv2 hgr hat;go_wp2
       go_roundg (gk-1)
       case measure=>have:=Hgk.out;omega
       case rel=>
        have e2:=Hgk.out;refine⟨j+1,M+1,by omega,by go_num,by omega,?_,?_,hb2,Hv2.out⟩
        ·rw[S.aJh,aDn (by rw[show(j:Int)+1=((j+1:Nat):Int)from by omega,Hpos.out];simpa using hxn)];simp[HM.out,Nat.add_assoc]
        ·rw[S.aJh,aDn (by rw[show(j:Int)+1=((j+1:Nat):Int)from by omega,Hpos.out];simpa using hxn),<-zBT];exact Hown'.out
      ·go_wp2
       go_roundg (gk-1)
       case measure=>have:=Hgk.out;omega
       case rel=>
        have e2:=Hgk.out;have e3:(S.above (j+1)).filter (S.derB cs given)=(S.above j).filter (S.derB cs given):=by
         rw[S.aJh,aGr (by rw[show(j:Int)+1=((j+1:Nat):Int)from by omega,Hpos.out];simp;omega)]
        exact⟨j+1,M,by omega,by go_num,by omega,by rw[e3];exact HM.out,by rw[e3];exact Hown.out,hbw,Hob.out⟩
     ·obtain rfl:j=k:=by omega
      have hown:=Hown.out;obtain⟨A2,c2,rfl⟩:=hown.form;clear hst2 hown;go_wp2
      go_ret3
      rw[S.aK4 Hv.out HG.out Hinc.out];have hlen:(S.aB8 j cs given).length=M:=by rw[HM.out,HL.out];simp[S.aB8]
      have hs:=Hown.out.slInts;refine⟨A2,c2,?_,?_,hb1.trans (hbw.mono hb1.size)⟩
      ·show _=Ending.returned (.tuple #[.slice A2 (S.aB8 j cs given).length c2, .bool false, .int .i64 0])
       rw[hlen];rfl
      ·show SlAt _ _ _ (S.aB8 j cs given).length (S.aB8 j cs given)
       rw[hlen];exact hs
end
end Go.Proofs.YtchdbhggbdcapaaGreat
section
namespace Go.Proofs.YtchdbhggbdcapaaGreat.C
open S
open T (Nd)
section
variable {t : List Nd} {c : Circ}
theorem aK5(M:Nat)(e:E):(given M e).length=M:=by simp[given]
theorem bC9(M:Nat)(e:E){i:Nat}(hi:i<M):(given M e)[i]? =some (if e (i+2)=true then((i+2:Nat):Int)else -((i+2:Nat):Int)):=by
 unfold given;rw[zAW,List.getElem?_range hi];rfl
theorem aX5(M:Nat)(e:E){i:Nat}(hi:i<M):(given M e).take (i+1)=(given M e).take i ++ [if e (i+2)=true then((i+2:Nat):Int)else -((i+2:Nat):Int)]:=by
 rw[List.take_add_one,bC9 M e hi];rfl
theorem bAn{n:Nat}{M:Nat}(h:M+1<=n)(e:E):isClause n (given M e)=true:=by
 refine zAD.2 fun l hl=>?_
 unfold given at hl;obtain⟨i,hi,rfl⟩:=zBU.1 hl;rw[zBR]at hi;simp only[isLit,zBQ];split <;> omega
theorem Says.validN(h:Says t c):S.aAe c.b.n c.b.cls=0:=by
 have h1:=h.ok.nm;have h2:=h.ok.cm;unfold S.aAe;rw[if_neg (by omega),if_pos (zAD.2 fun k hk=>h.ok.lits k hk)]
theorem Says.givenT(h:Says t c)(e:E):∀l∈given (total (T.aAa t)) e,l≠0/\lsem c.b l e=true:=fun l hl=>by
 have hk:=h.ok.nk;unfold given at hl;obtain⟨i,hi,rfl⟩:=zBU.1 hl;rw[zBR]at hi;have hv:=h.ok.inp (i+2) (by omega) (by omega) e
 by_cases hb:e (i+2)=true
 ·rw[if_pos hb];exact⟨by omega,by rw[hv,hb]⟩
 ·rw[if_neg hb];refine⟨by omega,?_⟩;rw[aAn c.b (by omega),hv];simpa using hb
theorem Says.consis(h:Says t c)(e:E):¬aA2 c.b.cls (given (total (T.aAa t)) e):=
 aN6 (s:=fun l=>lsem c.b l e) (fun l hl=>aAn c.b hl e) (fun k hk=>⟨aD4 (h.ok.lits k hk),h.ok.sat e k hk⟩) (h.givenT e)
theorem Says.der_iff(h:Says t c)(e:E){l:Int}(hl:isLit c.b.n l=true):Der c.b.cls (given (total (T.aAa t)) e) l↔lsem c.b l e=true:=
 ⟨fun hd=>aMa (s:=fun l=>lsem c.b l e) (fun l hl=>aAn c.b hl e) (fun k hk=>⟨aD4 (h.ok.lits k hk),h.ok.sat e k hk⟩) (fun l hl=>(h.givenT e l hl).2) hd,fun hs=>h.ok.der e l hl hs⟩
theorem aX6(n:Nat)(p q:Int->Bool)(h:∀v:Nat,1<=v->v<=n->p (-(v:Int))= !q v):((S.below n n).filter p).length+((above n).filter q).length=n:=by
 have e1:∀k,k<=n->((S.below n k).filter p).length+(((List.range k).map fun j=>((n-j:Nat):Int)).filter q).length=k:=by
  intro k;induction k with
  | zero=>intro _;rfl
  | succ k ih=>
   intro hk;have ih:=ih (by omega);rw[S.aGz,List.filter_append,zAX,List.range_succ,zBS,List.filter_append,zAX];have hp:=h (n-k) (by omega) (by omega);rw[show(-(n:Int)+(k:Int))= -((n-k:Nat):Int) by omega];simp only[List.map_cons,List.map_nil,List.filter_cons,List.filter_nil];rw[hp];cases q ((n-k:Nat):Int)
   ·simp;omega
   ·simp;omega
 have e2:(above n).reverse=(List.range n).map fun j=>((n-j:Nat):Int):=by
  apply List.ext_getElem
  ·simp[above]
  ·intro i h1 h2;simp[above]at h1⊢;omega
 have h1:=e1 n (zBJ _);rw[<-e2,List.filter_reverse,List.length_reverse]at h1;exact h1
theorem Says.unitsAll(h:Says t c)(e:E):S.aDi c.b.n c.b.cls (given (total (T.aAa t)) e)=(aB8 c.b.n c.b.cls (given (total (T.aAa t)) e),false,0)/\(aB8 c.b.n c.b.cls (given (total (T.aAa t)) e)).length=c.b.n/\
 ∀l∈aB8 c.b.n c.b.cls (given (total (T.aAa t)) e),isLit c.b.n l=true/\lsem c.b l e=true:=by
 refine⟨aK4 h.validN (bAn h.ok.nk e) (h.consis e),?_,fun l hl=>?_⟩
 ·unfold aB8;rw[zAX];refine aX6 c.b.n _ _ fun v h1 h2=>?_
  have l1:isLit c.b.n (v:Int)=true:=by simp only[isLit,zBQ];omega
  have l2:isLit c.b.n (-(v:Int))=true:=by simp only[isLit,zBQ];omega
  have d1:=h.der_iff e l1;have d2:=h.der_iff e l2;rw[aAn c.b (by omega)]at d2;cases hs:lsem c.b (v:Int) e
  ·rw[hs]at d1 d2;have a1:derB c.b.cls (given (total (T.aAa t)) e) (-(v:Int))=true:=aEe.2 (d2.2 rfl);have a2:derB c.b.cls (given (total (T.aAa t)) e) (v:Int)=false:=by
    cases q:derB c.b.cls (given (total (T.aAa t)) e) (v:Int)
    ·rfl
    ·exact absurd (d1.1 (aEe.1 q)) (by decide)
   rw[a1,a2];rfl
  ·rw[hs]at d1 d2;have a1:derB c.b.cls (given (total (T.aAa t)) e) (v:Int)=true:=aEe.2 (d1.2 rfl);have a2:derB c.b.cls (given (total (T.aAa t)) e) (-(v:Int))=false:=by
    cases q:derB c.b.cls (given (total (T.aAa t)) e) (-(v:Int))
    ·rfl
    ·exact absurd (d2.1 (aEe.1 q)) (by decide)
   rw[a1,a2];rfl
 ·have hlit:isLit c.b.n l=true:=by
   unfold aB8 at hl;simp only[isLit,zBQ];rcases zBE.1 hl with hl | hl
   ·obtain⟨h1,_⟩:=List.mem_filter.1 hl;obtain⟨j,hj,rfl⟩:=zBU.1 h1;rw[zBR]at hj;omega
   ·obtain⟨h1,_⟩:=List.mem_filter.1 hl;obtain⟨j,hj,rfl⟩:=zBU.1 h1;rw[zBR]at hj;omega
  refine⟨hlit,(h.der_iff e hlit).1 ?_⟩;unfold aB8 at hl;rcases zBE.1 hl with hl | hl
  ·exact aEe.1 (List.mem_filter.1 hl).2
  ·exact aEe.1 (List.mem_filter.1 hl).2
theorem Says.unitBit(h:Says t c)(e:E){l:Int}(hl:isLit c.b.n l=true)(hs:lsem c.b l e=true){j:Nat}(hj:j<aBw t)(ha:max l (-l)-c.root=(j:Int)):decide (0<l)=(rv t (envOf t e)).toNat.testBit j:=by
 have hv:=h.val e j hj;rw[rv_eq]at hv;have hr:=h.r1;have h0:=aAc hl;rw[<-hv]
 by_cases hp:0<l
 ·rw[zBO hp,show c.root+(j:Int)=l by omega,hs]
 ·rw[zBP hp];have h2:=aAn c.b h0 e;rw[hs]at h2;rw[show c.root+(j:Int)= -l by omega,h2];rfl
end
theorem bDa{l:List Int}{k v j:Nat}{w:Nat}(hv:v<l.length)(hw:l.getD v 0=w)(hj:j<w):((envK l k).getD v 0).toNat.testBit j=bitE k (total (l.take v)+j+2):=by
 rw[aF4 l k v hv,hw,zBA,zBA,Nat.testBit_mod_two_pow,Nat.testBit_div_two_pow];unfold bitE;rw[show total (l.take v)+j+2-2=j+total (l.take v) by omega];simp[hj]
end Go.Proofs.YtchdbhggbdcapaaGreat.C
end
namespace Go.Proofs.YtchdbhggbdcapaaGreat
open _root_.Go.Proofs.Tryz
section
open Go.RowKit
theorem bDb(n l:Int)(W:World)(h0:0<=n)(h1:n<=4000)(h:S.isLit n l=true):
 Calls prog 47 #[.int .i64 n, .int .i64 l] W fun e w'=>e= .returned (.bool true)/\w'=W:=by
 have h2: -n<=l/\l<=n/\l≠0:=by simpa[S.isLit]using h
 clear h
 by_cases hp:0<l
 ·have q1:decide (1<=l)=true:=by simp;omega
  have q2:decide (l<=n)=true:=by simp;omega
  go_enter func47,ntmps47
  go_wp2;go_ret
  first | exact⟨rfl,rfl⟩ | exact⟨rfl,trivial⟩ | skip
 ·have q1:decide (1<=l)=false:=by simp;omega
  have q2:decide (l<=-1)=true:=by simp;omega
  have q3:IntKind.i64.wrap (-n)= -n:=IntWalk.i64_in _ (by omega);have q4:decide (-n<=l)=true:=by simp;omega
  go_enter func47,ntmps47
  go_wp2;go_ret
  first | exact⟨rfl,rfl⟩ | exact⟨rfl,trivial⟩ | skip
theorem aQv(n:Nat)(A:Option Addr)(m c:Nat)(xs:List (List Int))(w:World)(hA:SlAt (SlR (IntR .i64)) w A m xs)(hv:S.aAe n xs=0):
 Calls prog 24 #[.int .i64 (n:Int), .slice A m c] w fun e w'=>e= .returned (.int .i64 0)/\w'=w:=by
 have hl:=hA.le;have hxl:=hA.len;have HA:=kH hA;clear hA;have hk:n<=4000/\m<=24000/\∀x∈xs,S.isClause n x=true:=by
  unfold S.aAe at hv;split at hv
  ·cases hv
  ·split at hv
   ·rename_i h1 h2;exact⟨by omega,by omega,zAD.1 h2⟩
   ·cases hv
 obtain⟨hn4,hm4,hcl⟩:=hk;have Hcl:=kH hcl;have h0:¬((n:Int) < 0):=by omega
 have h1:decide ((n:Int) < 0)=false:=by simp
 have h2:decide ((4000:Int) <(n:Int))=false:=by simp;omega
 have h3:decide ((24000:Int) <(m:Int))=false:=by simp;omega
 clear hcl hv hxl h0
 go_enter func24,ntmps24
 go_upto_region 4 with(fail)
 go_loopw [5] (fun i wr=>∃k:Nat,k<=m/\i= .int .i64 (k:Int)/\wr=w) (fun i _=>m- (intOf i).toNat)
 case atStart=>exact⟨0,zBL _,rfl,rfl⟩
 case round=>
  obtain⟨k,hk,rfl,rfl⟩:=hrel
  by_cases hlt:k<m
  ·obtain⟨x,b,off,u,hx,rfl,_,hcl,A1,c1,rfl,s1⟩:=HA.out.at_ hlt;have Hs1:=kH s1;have hle1:=s1.le;have Hx:=kH (Hcl.out x (zAC hx));obtain⟨xl,hxl⟩:∃q,x.length=q:=⟨_,rfl⟩;rw[hxl]at hcl Hs1 hle1;have hkm:(k:Int) <(m:Int):=by omega
   clear s1 hx hxl
   go_upto_region 7 with(fail)
   go_loopw [6] (fun i wr2=>∃j:Nat,j<=xl/\i= .int .i64 (j:Int)/\wr2=wr) (fun i _=>xl- (intOf i).toNat)
   case atStart=>exact⟨0,zBL _,rfl,rfl⟩
   case round=>
    obtain⟨j,hj,rfl,rfl⟩:=hrel
    by_cases hlt2:j<xl
    ·obtain⟨y,b2,off2,u2,hy,rfl,_,hcy,hu2⟩:=Hs1.out.at_ hlt2;obtain rfl:u2= .int .i64 y:=hu2;have HL:=kH (fun W=>bDb n y W (by omega) (by omega) (zAD.1 Hx.out y (zAC hy)));have hjx:(j:Int) <(xl:Int):=by omega
     clear hy
     go_wp2_with fail
     refine(HL.out _).mono ?_;rintro e w3 ⟨rfl,rfl⟩;go_wp2;go_roundw
     case rel=>exact⟨j+1,by omega,by go_num,trivial⟩
     case measure=>simp[intOf];omega
    ·obtain rfl:j=xl:=by omega
     go_wp2;go_roundw
     case rel=>exact⟨k+1,by omega,by go_num,trivial⟩
     case measure=>simp[intOf];omega
  ·obtain rfl:k=m:=by omega
   go_wp2;go_ret
   first | exact⟨rfl,rfl⟩ | exact⟨rfl,trivial⟩ | skip
theorem bDc{x:Int}{k:Nat}(h0:0<=x)(h1:x<4294967296):(bits BinOp.and IntKind.u32 (x / 2 ^ k) 1 == 0)= !x.toNat.testBit k:=by
 have h:=aOv (k:=k) h0 h1;obtain⟨n,rfl⟩:∃n:Nat,x=n:=⟨x.toNat,by omega⟩;have e:((n:Int) / 2 ^ k)=((n / 2 ^ k:Nat):Int):=by simp
 rw[e]at h⊢;have hm:bits BinOp.and IntKind.u32 ((n / 2 ^ k:Nat):Int) 1=0\/bits BinOp.and IntKind.u32 ((n / 2 ^ k:Nat):Int) 1=1:=by
  have hle:n / 2 ^ k<=n:=Nat.div_le_self _ _;generalize n / 2 ^ k=z at hle⊢;have hm:=B.aIj (n:=1) (x:=((z:Nat):Int)) (by decide) (by omega) (by omega);rw[show B.pw 1-1=1 from by decide,show B.pw 1=2 from by decide]at hm;rw[hm];omega
 rcases hm with q | q <;> rw[q]at h⊢<;> rw[<-h] <;> rfl
def GvAt(w0 w:World)(v:Value)(L:List Int):Prop:=Below w0.heap.size w0 w/\OwnAt w 3 1 v L.length (L.map (.int .i64))/\∀g,v.ownBlock=some g->w0.heap.size<=g
theorem bAo{t:List T.Nd}(ht:C.Tm t){v:Nat}(hv:v<4):∃m:Nat,(T.aAa t)[v]? =some (m:Int)/\(C.aAj (T.aAa t) 0)[v]? =some (C.aAz (C.total ((T.aAa t).take v)) m)/\C.total ((T.aAa t).take (v+1))=C.total ((T.aAa t).take v)+m/\C.total ((T.aAa t).take v)+m<=128/\m<=32:=by
 have hwl:=T.aA9 t;obtain⟨z,hz⟩:∃z,(T.aAa t)[v]? =some z:=⟨_,zAB (by omega)⟩;obtain⟨z0,z1⟩:=C.aCx ht hz;have hs:=aEp hz;have ht1:=C.aCp (T.aAa t) v (by omega);have h128:=C.aCt ht;have hgd:(T.aAa t).getD v 0=z:=by rw[List.getD,hz];rfl
 rw[hgd]at ht1;obtain⟨m,rfl⟩:∃m:Nat,z=m:=⟨z.toNat,by omega⟩;have hvl:v<(C.aAj (T.aAa t) 0).length:=by rw[C.aCc];omega
 have h1:=C.aC6 (T.aAa t) 0 v (by omega);rw[zBH,hgd,zBA,List.getD,zAB hvl]at h1;refine⟨m,hz,?_,by rw[hs,zBA],by rw[zBA]at ht1;omega,by omega⟩;rw[zAB hvl];exact congrArg some h1
theorem bFu(k:Int)(M:Nat):∃q:Nat,wrap64 ((IntKind.u64.wrap k).tmod (IntKind.u64.wrap (2 ^ (min (M:Int) 40).toNat)))=(q:Int)/\q<=4398046511104/\IntKind.u64.wrap (2 ^ (min (M:Int) 40).toNat)≠0:=by
 have h1:(min (M:Int) 40).toNat<=40:=by omega
 obtain⟨s,hs⟩:∃s,(min (M:Int) 40).toNat=s:=⟨_,rfl⟩;rw[hs]at h1⊢;have h2:(2:Nat) ^ s<=1099511627776:=zBK (zAJ (by decide) h1) (by decide);have h2p:=Nat.two_pow_pos s;have h3:IntKind.u64.wrap ((2:Int) ^ s)=((2 ^ s:Nat):Int):=by
  rw[show(2:Int) ^ s=((2 ^ s:Nat):Int) by simp];exact IntWalk.u64_in _ (by omega)
 rw[h3];obtain⟨p,hp⟩:∃p,2 ^ s=p:=⟨_,rfl⟩;rw[hp]at h2 h2p⊢;have h4:0<=IntKind.u64.wrap k:=by rw[IntKind.wrap_u64];omega
 rw[Int.tmod_eq_emod_of_nonneg h4];generalize IntKind.u64.wrap k=a at h4⊢;have h5:0<=a % (p:Int):=Int.emod_nonneg _ (by omega);have h6:a % (p:Int) < p:=Int.emod_lt_of_pos _ (by omega);refine⟨(a % (p:Int)).toNat,?_,by omega,by omega⟩;rw[IntWalk.wrap64_in _ (by omega)];omega
theorem GvAt.start(w:World):GvAt w w (.slice none 0 0) []:=⟨Below.refl _ _,OwnAt.nil_ _ _ _,fun g h=>by simp[Value.ownBlock]at h⟩
theorem GvAt.push{w0 w w':World}{v v':Value}{L:List Int}{x:Int}{o:Obj}(h:GvAt w0 w v L)(hown:OwnAt w' 3 1 v' (L.length+1) (L.map (.int .i64)++ [.int .i64 x]))(hg:(w.alloc o).grownBy w' v.ownBlock)(hat:v'.ownBlock=v.ownBlock\/v'.ownBlock=some (w.heap.size+1)):GvAt w0 w' v' (L ++ [x]):=by
 obtain⟨h1,h2⟩:=aCb h.1 h.1.size h.2.2 hg hat;exact⟨h1,by rw[zAX,zBS];exact hown,h2⟩
theorem bDd{t:List T.Nd}{c:C.Circ}{M N rw0:Nat}{rt:Int}(h:C.Says t c)(hM:C.total (T.aAa t)=M)(hN:c.b.n=N)(hr:c.root=rt)(hw:C.aBw t=rw0)(kk:Nat):∃UL:List Int,S.aDi (N:Int) c.b.cls (C.given M (C.bitE kk))=(UL,false,0)/\UL.length=N/\∀l∈UL,(-(N:Int)<=l/\l<=N/\l≠0)/\∀j,j<rw0->max l (-l)-rt=(j:Int)->decide (0<l)=(C.rv t (C.envK (T.aAa t) kk)).toNat.testBit j:=by
 subst hM hN hr hw;obtain⟨u1,u2,u3⟩:=h.unitsAll (C.bitE kk);refine⟨_,u1,u2,fun l hl=>?_⟩;obtain⟨h1,h2⟩:=u3 l hl;refine⟨by simpa[S.isLit]using h1,fun j hj ha=>?_⟩;rw[h.unitBit (C.bitE kk) h1 h2 hj ha,C.aKg]
theorem bFv{t:List T.Nd}(hv:T.valid true t=0):rootW t=(C.aBw t:Int)/\1<=C.aBw t/\C.aBw t<=32:=by
 obtain⟨v1,v2,v3,v4,v5⟩:=aBk hv;have:=T.aAo (v3 _ _ (zAB (show t.length-1<t.length by omega)));unfold rootW C.aBw;rw[List.getD,zAB (show t.length-1<t.length by omega)];simp only[Option.getD_some];omega
theorem aMz(t:List T.Nd)(k:Int)(n ct:Nat)(At:Option Addr)(W:World)(hT:StAt 5 NdR W At n t):
 Calls prog 5 #[.slice At n ct, .int .i64 k] W fun e W'=>e= .returned (.bool true)/\Below W.heap.size W W':=by
 have HT:=kH hT;have Hi:=kH (aBq hT);have hle:=hT.le;have HL:=kH (aFj t n ct At W hT);have HRV:=kH (fun X (hX:Below W.heap.size W X)=>aE0 t n ct At X (hT.below aAh hX));have HWd:=kH (fun X (hX:Below W.heap.size W X)=>aGe t n ct At X (hT.below aAh hX));have HRt:=kH (fun X (h1:1<=n) (hX:Below W.heap.size W X)=>aP0 t n ct At X (hT.below aAh hX) h1);have Hln:=kH hT.len;obtain⟨ve,hve⟩:∃x,T.valid true t=x:=⟨_,rfl⟩;rw[hve]at HRV;have Hve:=kH hve;clear hT hve
 go_enter func5,ntmps5
 go_wp2_with fail
 refine HL.out.mono ?_;rintro e w1 ⟨hb1,rfl |⟨rfl,hn24⟩⟩
 ·have Hb1:=kH hb1;clear hb1 HL;have HKn:=kH (aAt w1)
  go_wp2_with fail
  refine HKn.out.mono ?_;rintro e wk ⟨rfl,hbk⟩;have Hbk:=kH (Hb1.out.trans (hbk.mono Hb1.out.size));clear hbk HKn;go_wp2;go_ret;exact⟨rfl,Hbk.out⟩
 have Hb1:=kH hb1;have Hn24:=kH hn24;have HP:=kH (aL3 t n ct At w1 (HT.out.below aAh hb1));clear hb1 hn24 HL
 go_wp2_with fail
 refine HP.out.mono ?_;rintro e w2 ⟨hb2,⟨hno,rfl⟩ |⟨hv0,hbn,rfl⟩ |⟨hv0,c,A,cap,A',cap',hbs,hB,rfl,hA,hA'⟩⟩
 ·have hb2':=Hb1.out.trans (hb2.mono Hb1.out.size);have HRk:=kH (HRV.out w2 hb2');have Hb2:=kH hb2';rw[Hve.out]at hno⊢;have hq:(ve == 0)=false:=by simpa using hno
  have hq2:(ve != 0)=true:=by simpa using hno
  clear hb2 hb2' HP HRV hno
  go_wp2_with fail
  refine HRk.out.mono ?_;rintro e w3 ⟨rfl,hb3⟩;have hb3':=Hb2.out.trans (hb3.mono Hb2.out.size);have Hb3:=kH hb3';clear hb3 hb3' HRk;have HKn:=kH (aAt w3)
  go_wp2_with fail
  refine HKn.out.mono ?_;rintro e wk ⟨rfl,hbk⟩;have Hbk:=kH (Hb3.out.trans (hbk.mono Hb3.out.size));clear hbk HKn;go_wp2;go_ret;exact⟨rfl,Hbk.out⟩
 ·have hb2':=Hb1.out.trans (hb2.mono Hb1.out.size);have HRk:=kH (HRV.out w2 hb2');have Hb2:=kH hb2';obtain rfl:ve=0:=by rw[<-Hve.out];exact hv0
  clear hb2 hb2' HP HRV hv0 hbn
  go_wp2_with fail
  refine HRk.out.mono ?_;rintro e w3 ⟨rfl,hb3⟩;have hb3':=Hb2.out.trans (hb3.mono Hb2.out.size);have Hb3:=kH hb3';clear hb3 hb3' HRk;have HKn:=kH (aAt w3)
  go_wp2_with fail
  refine HKn.out.mono ?_;rintro e wk ⟨rfl,hbk⟩;have Hbk:=kH (Hb3.out.trans (hbk.mono Hb3.out.size));clear hbk HKn;go_wp2;go_ret;exact⟨rfl,Hbk.out⟩
 have hb2':=Hb1.out.trans (hb2.mono Hb1.out.size);have HRk:=kH (HRV.out w2 hb2');have Hb2:=kH hb2';obtain rfl:ve=0:=by rw[<-Hve.out];exact hv0
 obtain⟨htm,hcl⟩:=C.tm_of hv0 Hi.out;have Hs:=kH (C.aIm htm hcl hbs);have Htm:=kH htm;have HA:=kH hA;have HA':=kH hA';have HB:=kH hB;clear hb2 hb2' HP HRV hv0 htm hcl hbs hB hA hA'
 go_wp2_with fail
 refine HRk.out.mono ?_;rintro e w3 ⟨rfl,hb3⟩;have hb3':=Hb2.out.trans (hb3.mono Hb2.out.size);have Hb3:=kH hb3';have HA3:=kH (HA.out.below aCd hb3);have HA3':=kH (HA'.out.below aCd hb3);have HWk:=kH (HWd.out w3 hb3');clear HWd HA HA';clear hb3 hb3' HRk
 go_wp2_with fail
 refine HWk.out.mono ?_;rintro e w4 ⟨hb4,⟨hno,_⟩ |⟨_,g,rfl,hg,hrow⟩⟩
 ·exact absurd Hve.out hno
 have hb4':=Hb3.out.trans (hb4.mono Hb3.out.size);have Hb4:=kH hb4';have h1n:1<=n:=by
  have:=(aBk Hve.out).1;rw[Hln.out]at this;exact this
 have HA4:=kH (HA3.out.below aCd hb4);have HA4':=kH (HA3'.out.below aCd hb4);have Hrow:=kH hrow;have HRtk:=kH (HRt.out w4 h1n hb4');obtain⟨rw0,hrw0⟩:∃x,C.aBw t=x:=⟨_,rfl⟩;obtain⟨h1,h2⟩:=bFv Hve.out;rw[hrw0]at h1 h2;rw[h1]at HRtk;have Hrw:=kH hrw0;have Hrw1:=kH h2;clear hb4 hb4' HWk hg hrow HRt HA3 HA3' h1 h2 hrw0
 go_wp2_with fail
 refine HRtk.out.mono ?_;rintro e w5 ⟨rfl,hb5⟩;have hb5':=Hb4.out.trans (hb5.mono Hb4.out.size);have Hb5:=kH hb5';have HA5:=kH (HA4.out.below aCd hb5);have HA5':=kH (HA4'.out.below aCd hb5);have Hrow5:=kH ((hb5.block _ (gA Hrow.out).1).trans Hrow.out);clear HA4 HA4';clear hb5 hb5' HRtk;have HV:=kH (aQv c.b.n A c.b.cls.length cap c.b.cls w5 HA5.out Hs.out.validN);have hr1:=Hs.out.r1;have hrn:=Hs.out.rn;rw[Hrw.out]at hrn;have hnm:=Hs.out.ok.nm;obtain⟨N,hN⟩:∃x,c.b.n=x:=⟨_,rfl⟩;obtain⟨rt,hrt⟩:∃x,c.root=x:=⟨_,rfl⟩;obtain⟨m,hm⟩:∃x,c.b.cls.length=x:=⟨_,rfl⟩;rw[hN,hm]at HV;rw[hN,hrt]at hrn;rw[hrt]at hr1;rw[hN]at hnm;rw[hN,hrt,hm];rw[hm]at HA5;have HN:=kH (And.intro hN (And.intro hrt hm));have hq1:decide (rt<1)=false:=by simp;omega
 have hw1:IntKind.i64.wrap (rt+(rw0:Int))=rt+(rw0:Int):=IntWalk.i64_in _ (by omega);have hw2:IntKind.i64.wrap (rt+(rw0:Int)-1)=rt+(rw0:Int)-1:=IntWalk.i64_in _ (by omega);have hq2:decide ((N:Int) < rt+(rw0:Int)-1)=false:=by simp;omega
 have Hwl:=kH (T.aA9 t);clear hN hrt hm
 go_wp2_with fail
 refine HV.out.mono ?_;rintro e w5' ⟨rfl,rfl⟩;clear HV hq1 hw1 hw2 hq2;obtain⟨_,b',off',_,_,rfl,_⟩:=HA5'.out.at_ (show 0<4 by omega)
 go_upto_region 15 with(fail)
 go_loopw [14,15] (fun s14 s15 wr=>∃v:Nat,v<=4/\s15= .int .i64 (v:Int)/\s14= .int .i64 ((C.total ((T.aAa t).take v):Nat):Int)/\Dr w5' wr) (fun _ s _=>4- (intOf s).toNat)
 case atStart=>exact⟨0,zBL _,rfl,rfl,Dr.refl _⟩
 case round=>
  obtain⟨v,hv4,rfl,rfl,hdr⟩:=hrel;have Hd:=kH hdr;have hbw:=hdr.below w5'.heap.size;clear hdr
  by_cases hlt:v<4
  ·obtain⟨m,hz,hxx,hs,h128,hm32⟩:=bAo Htm.out hlt;obtain⟨x,b,off,u,hx,hAe,_,hcl,A1,c1,rfl,s1⟩:=(HA5'.out.below aCd hbw).at_ hlt;cases hAe;rw[hxx]at hx;obtain rfl:=zAH hx;have hc:=cell_of_row wr g v _ _ (0,0) ((hbw.block _ (gA Hrow5.out).1).trans Hrow5.out);rw[zAV,zAW,hz]at hc;have hc:wr.cell? ⟨g,v,none⟩=some (.int .i64 (m:Int)):=hc;rw[show(C.aAz (C.total ((T.aAa t).take v)) m).length=m from by simp[C.aAz]]at hcl;obtain⟨K,hK⟩:∃K,C.total ((T.aAa t).take v)=K:=⟨_,rfl⟩;rw[hK]at hs h128;rw[hK];have Hs9:=kH hs;have hv3:(v:Int) < 4:=by omega
   clear s1 hxx hz hs hK hbw;go_wp2
   go_quiet (fail)
   go_wp2;go_roundw
   case rel=>exact⟨v+1,by omega,by go_num,by rw[Hs9.out];go_num,Hd.out.drewN _⟩
   case measure=>simp[intOf];omega
  ·obtain rfl:v=4:=by omega
   have hM:(T.aAa t).take 4=T.aAa t:=zAK (by rw[Hwl.out];exact zBJ _);have h128:=C.aCt Htm.out;rw[hM];obtain⟨M,hM'⟩:∃M,C.total (T.aAa t)=M:=⟨_,rfl⟩;rw[hM']at h128⊢;have HM:=kH hM';have Hb6:=kH (Hb5.out.trans (hbw.mono Hb5.out.size));have HA6:=kH (HA5.out.below aCd hbw);have HA6':=kH (HA5'.out.below aCd hbw);have Hrow6:=kH ((hbw.block _ (gA Hrow5.out).1).trans Hrow5.out);clear hM hM' hbw HA5 HA5' Hrow5 Hd;rw[show((4:Nat):Int)=4 from rfl]
   go_upto_region 20 with(fail)
   go_cut [16] (fun a16 wx=>∃A c kk,a16= .slice A 4 c/\Hid (SlAt (IntR .u32) wx A 4 (C.envK (T.aAa t) kk))/\Hid (Below wr.heap.size wr wx))
   case first=>
    obtain⟨q,hq,hq40,hne⟩:=bFu k M;have HE:=kH (aS2 t g q wr Hrow6.out Htm.out hq40);clear hq40
    go_wp2_with fail
    rw[hq];refine HE.out.mono ?_;rintro e w7 ⟨A7,c7,rfl,hsl,hb7⟩;have H7:=kH (And.intro hsl hb7);clear hsl hb7 HE hq;go_wp2
    go_meet
    exact⟨A7,c7,q,rfl,H7.out.1,H7.out.2⟩
   case rest=>
    obtain⟨A7,c7,kk,rfl,HE7,Hb7⟩:=hcut;have HA7:=kH (HA6.out.below aCd Hb7.out);have HA7':=kH (HA6'.out.below aCd Hb7.out);have Hbw:=kH (Hb6.out.trans (Hb7.out.mono Hb6.out.size));have hMN:M+1<=N:=by have:=Hs.out.ok.nk;rw[HM.out,HN.out.1]at this;exact this
    clear HA6 HA6' Hrow6 Hb7 Hb6
    go_upto_region 23 with(fail)
    go_loopw [17,18] (fun gv s18 wq=>∃v:Nat,v<=4/\s18= .int .i64 (v:Int)/\Hid (GvAt wc wq gv ((C.given M (C.bitE kk)).take (C.total ((T.aAa t).take v))))) (fun _ s _=>4- (intOf s).toNat)
    case atStart=>exact⟨0,zBL _,rfl,kH (by rw[show C.total ((T.aAa t).take 0)=0 by simp[C.total],List.take_zero];exact GvAt.start _)⟩
    case round=>
     obtain⟨v,hv4,rfl,HG⟩:=hrel
     by_cases hlt:v<4
     ·obtain⟨m2,hz,hxx,hs,h128b,hm32⟩:=bAo Htm.out hlt;obtain⟨x,b,off,u,hx,hAe,hbl,hcl,A1,c1,rfl,s1⟩:=HA7'.out.at_ hlt;cases hAe;rw[hxx]at hx;obtain rfl:=zAH hx;obtain⟨y,be,offe,ue,hy,rfl,hbe,hce,hue⟩:=HE7.out.at_ hlt;obtain rfl:ue= .int .u32 y:=hue;have hyr:=(C.aDt Htm.out kk).word y (zAC hy);have hgd:(C.envK (T.aAa t) kk).getD v 0=y:=by rw[List.getD,hy];rfl
      have hwd:(T.aAa t).getD v 0=(m2:Int):=by rw[List.getD,hz];rfl
      have hbit:∀j,j<m2->y.toNat.testBit j=C.bitE kk (C.total ((T.aAa t).take v)+j+2):=fun j hj=>by
       rw[<-hgd];exact C.bDa (by rw[Hwl.out];exact hlt) hwd hj
      have hlen:(C.aAz (C.total ((T.aAa t).take v)) m2).length=m2:=by simp[C.aAz]
      rw[hlen]at hcl s1;have hKM:C.total ((T.aAa t).take v)+m2<=M:=by
       have h1:=C.aCp (T.aAa t) v (by rw[Hwl.out];exact hlt);rw[hwd,zBA,HM.out]at h1;exact h1
      obtain⟨K,hK⟩:∃K,C.total ((T.aAa t).take v)=K:=⟨_,rfl⟩;rw[hK]at hs s1 hbit hKM HG;have Hs1:=kH (And.intro s1 (And.intro hcl (And.intro hbl (And.intro hce (And.intro hbe (And.intro hs (And.intro hbit hyr)))))));have hv3:(v:Int) < 4:=by omega
      clear hx s1 hxx hz hs hK hcl hbl hce hbe hbit hyr hgd hwd hlen hy
      go_upto_region 26 with(fail)
      go_loopw [17,19,20] (fun gv s19 s20 wq=>∃j:Nat,j<=m2/\s19= .int .i64 (j:Int)/\Hid (GvAt wc wq gv ((C.given M (C.bitE kk)).take (K+j)))) (fun _ s _ _=>m2- (intOf s).toNat)
      case atStart=>exact⟨0,zBL _,rfl,HG⟩
      case round=>
       obtain⟨j,hj,rfl,HG2⟩:=hrel;have hbb:=HG2.out.1;have hcw:=(hbb.cell (p:=⟨b',off'+v,none⟩) Hs1.out.2.2.1).trans Hs1.out.2.1
       by_cases hlt2:j<m2
       ·have hce:=(hbb.cell (p:=⟨be,offe+v,none⟩) Hs1.out.2.2.2.2.1).trans Hs1.out.2.2.2.1;obtain⟨l,b2,off2,u2,hl,rfl,_,hc2,hu2⟩:=(Hs1.out.1.below (aAd _) hbb).at_ hlt2;obtain rfl:u2= .int .i64 l:=hu2;obtain rfl:l=((K+2+j:Nat):Int):=by
         unfold C.aAz at hl;rw[zAW,List.getElem?_range hlt2]at hl;exact(zAH hl).symm
        obtain⟨L,hL⟩:∃L:Nat,K+2+j=L:=⟨_,rfl⟩;rw[hL]at hc2;have hz:=bDc (k:=j) Hs1.out.2.2.2.2.2.2.2.1 Hs1.out.2.2.2.2.2.2.2.2;rw[Hs1.out.2.2.2.2.2.2.1 j hlt2]at hz;have hgt:=C.aX5 M (C.bitE kk) (i:=K+j) (by omega);rw[show K+j+2=L by omega]at hgt hz;obtain⟨G,hG⟩:∃G,(C.given M (C.bitE kk)).take (K+j)=G:=⟨_,rfl⟩;have hGl:G.length<=200:=by rw[<-hG,zAZ,C.aK5];omega
        rw[hG]at hgt HG2;have Hgt:=kH hgt;have HL:=kH hL;have hjm:(j:Int) <(m2:Int):=by omega
        have hq1:((L:Int)== 0)=false:=by simp;omega
        have hq2:decide ((N:Int) <(L:Int))=false:=by simp;omega
        have hq6:decide (N<L)=false:=zBP (by omega);have hq3:IntKind.i64.wrap (-(N:Int))= -(N:Int):=IntWalk.i64_in _ (by omega);have hq4:decide ((L:Int) < -(N:Int))=false:=zBP (by omega);have hq5:IntKind.i64.wrap (-(L:Int))= -(L:Int):=IntWalk.i64_in _ (by omega);obtain⟨gvn,hgn⟩:∃q,G.length=q:=⟨_,rfl⟩;have hown:=HG2.out.2.1;rw[hgn]at hown hGl;have Hown:=kH hown;have Hgn:=kH hgn;cases hbv:C.bitE kk L
        ·rw[hbv]at hz hgt;have hz2:(bits BinOp.and IntKind.u32 (y / 2 ^ j) 1 == 0)=true:=hz;rw[if_neg (by simp)]at hgt;have Hgt2:=kH hgt;clear hl hgt hz hbv hL hG hgn hown hbb Hgt
         go_wp2_with (at_builtin;refine aAk _ rfl (.tmp 168) (.tmp 170) 37 rfl 3 (.int .i64 0) 8 underlying37 infoInt rfl _ gvn _ rfl Hown.out (.int .i64 (-(L:Int))) rfl 3 rfl (by omega) (by omega) ?_;intro v' w9 hown' hgr hat;have Hn9:=kH (HG2.out.push (x:= -(L:Int)) (by rw[Hgn.out];exact hown') hgr hat);clear hown' hgr hat)
         go_roundw
         case rel=>exact⟨j+1,by omega,by go_num,kH (by rw[<-Nat.add_assoc,Hgt2.out];exact Hn9.out)⟩
         case measure=>simp[intOf];omega
        ·rw[hbv]at hz hgt;have hz2:(bits BinOp.and IntKind.u32 (y / 2 ^ j) 1 == 0)=false:=hz;rw[if_pos rfl]at hgt;have Hgt2:=kH hgt;clear hl hgt hz hbv hL hG hgn hown hbb Hgt
         go_wp2_with (at_builtin;refine aAk _ rfl (.tmp 168) (.tmp 170) 37 rfl 3 (.int .i64 0) 8 underlying37 infoInt rfl _ gvn _ rfl Hown.out (.int .i64 (L:Int)) rfl 3 rfl (by omega) (by omega) ?_;intro v' w9 hown' hgr hat;have Hn9:=kH (HG2.out.push (x:=(L:Int)) (by rw[Hgn.out];exact hown') hgr hat);clear hown' hgr hat)
         go_roundw
         case rel=>exact⟨j+1,by omega,by go_num,kH (by rw[<-Nat.add_assoc,Hgt2.out];exact Hn9.out)⟩
         case measure=>simp[intOf];omega
       ·obtain rfl:j=m2:=by omega
        clear hbb;go_wp2;go_roundw
        case rel=>exact⟨v+1,by omega,by go_num,kH (by rw[Hs1.out.2.2.2.2.2.1];exact HG2.out)⟩
        case measure=>simp[intOf];omega
     ·obtain rfl:v=4:=by omega
      obtain⟨UL,hu1,hu2,hu3⟩:=bDd Hs.out HM.out HN.out.1 HN.out.2.1 Hrw.out kk;have hgl:(C.given M (C.bitE kk)).take (C.total ((T.aAa t).take 4))=C.given M (C.bitE kk):=by
       rw[zAK (l:=T.aAa t) (by rw[Hwl.out];exact zBJ _),HM.out];exact zAK (by rw[C.aK5];exact zBJ _)
      rw[hgl]at HG;have hown:=HG.out.2.1;rw[C.aK5]at hown;obtain⟨Ag,cg,rfl⟩:=hown.form;have Hbq:=kH HG.out.1;have HU:=kH (aTb (N:Int) A Ag m cap M cg c.b.cls (C.given M (C.bitE kk)) wr (HA7.out.below aCd Hbq.out) hown.slInts);unfold aOd at HU;rw[hu1]at HU;have hxw:=C.aVj Hve.out Hi.out (C.aDt Htm.out kk);have HEq:=kH (fun X (hX:Below wr.heap.size wr X)=>aJc t (C.envK (T.aAa t) kk) n ct c7 At A7 X (HT.out.below aAh (Hbw.out.trans ((Hbq.out.trans (hX.mono Hbq.out.size)).mono Hbw.out.size))) (HE7.out.below (aAd _) (Hbq.out.trans (hX.mono Hbq.out.size))) Hve.out (C.aDt Htm.out kk));have hx32:C.rv t (C.envK (T.aAa t) kk) < 4294967296:=by
       obtain⟨v1,v2,v3,v4,v5⟩:=aBk Hve.out;have h5:=T.aAo (v3 _ _ (zAB (show t.length-1<t.length by omega)));have h6:(t.getD (t.length-1) default).w<=32:=by
        rw[List.getD,zAB (show t.length-1<t.length by omega)];exact h5.2.2.2.1
       have h7:1<=(t.getD (t.length-1) default).w:=by
        rw[List.getD,zAB (show t.length-1<t.length by omega)];exact h5.2.2.1
       have h8:=hxw.2;rw[show(t.getD (t.length-1) default).w=(((t.getD (t.length-1) default).w.toNat:Nat):Int) by omega,C.pw_of]at h8;have h9:2 ^ (t.getD (t.length-1) default).w.toNat<=2 ^ 32:=zAJ (by decide) (by omega);have h10:(2:Nat) ^ 32=4294967296:=by decide
       omega
      have hx0:=hxw.1;obtain⟨xv,hxv⟩:∃q,C.rv t (C.envK (T.aAa t) kk)=q:=⟨_,rfl⟩;rw[hxv]at HEq hu3 hx0 hx32;have Hu3:=kH hu3;have Hx:=kH (And.intro hx0 hx32);obtain⟨ul,hul⟩:∃q,UL.length=q:=⟨_,rfl⟩;have hulN:ul=N:=by rw[<-hul];exact hu2
      rw[hul]at HU;have Hb8:=kH (Hbw.out.trans (Hbq.out.mono Hbw.out.size));clear hu1 hu2 hu3 hgl hown HG hxw hx0 hx32 hxv HA7 HA7' HE7
      go_wp2_with fail
      refine HU.out.mono ?_;rintro e w8 ⟨Au,cu,rfl,hsu,hb8⟩;have HEk:=kH (HEq.out w8 hb8);have Hb9:=kH (Hb8.out.trans (hb8.mono Hb8.out.size));have Hsu:=kH hsu;clear hsu hb8 HU HEq Hbq Hb8
      go_wp2_with fail
      refine HEk.out.mono ?_;rintro e w9 ⟨rfl,hb9⟩;have Hb10:=kH (Hb9.out.trans (hb9.mono Hb9.out.size));have Hsu9:=kH (Hsu.out.below (aAd _) hb9);have Hul:=kH hul;subst hulN;clear hb9 HEk Hsu Hb9 hul
      go_upto_region 39 with(fail)
      go_loopw [26,27] (fun s26 s27 wq=>∃j:Nat,j<=ul/\s26= .int .i64 (j:Int)/\Dr w9 wq) (fun s _ _=>ul- (intOf s).toNat)
      case atStart=>exact⟨0,zBL _,rfl,Dr.refl _⟩
      case round=>
       obtain⟨j,hj,rfl,hdr⟩:=hrel;have Hd:=kH hdr;have hbw:=hdr.below w9.heap.size;clear hdr
       by_cases hlt3:j<ul
       ·obtain⟨l,b3,off3,u3,hl,rfl,_,hc3,hu3⟩:=(Hsu9.out.below (aAd _) hbw).at_ hlt3;obtain rfl:u3= .int .i64 l:=hu3;obtain⟨⟨l1,l2,l3⟩,l4⟩:=Hu3.out l (zAC hl);obtain⟨a,ha⟩:∃a:Nat,max l (-l)=a:=⟨l.natAbs,by omega⟩;rw[ha]at l4;have hwl:IntKind.i64.wrap (-l)= -l:=IntWalk.i64_in _ (by omega);obtain⟨z,hz⟩:∃z,(a:Int)-rt=z:=⟨_,rfl⟩;have hwa:IntKind.i64.wrap ((a:Int)-rt)=z:=by rw[IntWalk.i64_in _ (by omega)];exact hz
        rw[hz]at l4;have hju:(j:Int) <(ul:Int):=by omega
        clear hl hz hbw l1 l2 l3
        by_cases c1:0<=z
        ·obtain⟨q,rfl⟩:∃q:Nat,z=q:=⟨z.toNat,by omega⟩
         by_cases c2:q<rw0
         ·have hb:=l4 q c2 rfl;have hi:=aOv (k:=q) Hx.out.1 Hx.out.2;rw[<-hb]at hi;have hq32:q<32:=by have:=Hrw1.out.2;omega
          have d0:decide ((0:Int)<=(q:Int))=true:=zBO c1;have d1:decide ((q:Int) <(rw0:Int))=true:=zBO (by omega);have d2:decide (q<rw0)=true:=zBO c2;clear hb l4 c1 c2
          by_cases hp:0<l
          ·have d3:decide (0<l)=true:=zBO hp;rw[d3]at hi;go_wp2
           go_quiet (fail)
           go_wp2;go_roundw
           case rel=>exact⟨j+1,by omega,by go_num,Hd.out.drewN _⟩
           case measure=>simp[intOf];omega
          ·have d3:decide (0<l)=false:=zBP hp;rw[d3]at hi;go_wp2
           go_quiet (fail)
           go_wp2;go_roundw
           case rel=>exact⟨j+1,by omega,by go_num,Hd.out.drewN _⟩
           case measure=>simp[intOf];omega
         ·have d0:decide ((0:Int)<=(q:Int))=true:=zBO c1;have d1:decide ((q:Int) <(rw0:Int))=false:=zBP (by omega);have d2:decide (q<rw0)=false:=zBP c2;clear l4 c1 c2;go_wp2
          go_quiet (fail)
          go_wp2;go_roundw
          case rel=>exact⟨j+1,by omega,by go_num,Hd.out.drewN _⟩
          case measure=>simp[intOf];omega
        ·have d0:decide ((0:Int)<=z)=false:=zBP c1;have d4:decide (z<0)=true:=zBO (by omega);clear l4 c1;go_wp2
         go_quiet (fail)
         go_wp2;go_roundw
         case rel=>exact⟨j+1,by omega,by go_num,Hd.out.drewN _⟩
         case measure=>simp[intOf];omega
       ·obtain rfl:j=ul:=by omega
        have Hbz:=kH (Hb10.out.trans (hbw.mono Hb10.out.size));clear hbw;have HKn:=kH (aAt wr)
        go_wp2_with fail
        refine HKn.out.mono ?_;rintro e wk ⟨rfl,hbk⟩;have Hbk:=kH (Hbz.out.trans (hbk.mono Hbz.out.size));clear hbk HKn;go_wp2;go_ret;exact⟨rfl,Hbk.out⟩
end
end Go.Proofs.YtchdbhggbdcapaaGreat
