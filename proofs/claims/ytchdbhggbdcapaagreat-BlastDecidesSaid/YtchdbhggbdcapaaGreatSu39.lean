/- Part. -/
import Derived.Test.YtchdbhggbdcapaaGreatSuLX
import Derived.Test.YtchdbhggbdcapaaGreatSu28
set_option linter.unusedVariables false
set_option linter.unusedSimpArgs false
set_option maxRecDepth 100000
set_option maxHeartbeats 16000000
namespace Go.Proofs.YtchdbhggbdcapaaGreat
open _root_.Go.Proofs.Tryz
section
open Go.RowKit
theorem aS4(t:List T.Nd)(env:List Int)(n ct ce:Nat)(At Ae:Option Addr)(W:World)(hT:StAt 5 NdR W At n t)(hE:SlAt (IntR .u32) W Ae 4 env)(hS:T.Std t env)(hn:n<=1000000)(hsm:∀x∈t,x.op=0\/x.op=33\/x.op=14):
 Calls prog 113 #[.slice At n ct, .slice Ae 4 ce] W fun e w'=>∃g,e= .returned (.slice (some ⟨g,0,none⟩) n n)/\W.heap.size<=g/\w'.heap[g]? =some (.cells ((T.vals t env).map (Value.int .u32)).toArray 45 (0,0))/\Below W.heap.size W w':=by
 have HT:=kH hT;have HE:=kH hE;have HS:=kH hS;have Hlen:=kH hT.len;have hle:=hT.le;have Hsm:=kH hsm;clear hT hE hS hsm;have hmk:=fun(W':World)=>aBd (P:=prog) 42 45 (.int .u32 0) 4 underlying42 aC1 rfl .i64 .i64 n (n:Int) rfl (by omega) (by omega) W'
 go_enter func113,ntmps113
 go_wp2;clear hmk
 go_loopg [16] (n+1) (fun g i wr=>∃(j:Nat),j<=n/\i= .int .i64 (j:Int)/\g+j=n+1/\Below W.heap.size W wr/\W.heap.size+1<wr.heap.size/\Hid (wr.heap[W.heap.size]? =some (.cells (fillC (T.valsTo t env j) n).toArray 45 (0,0)))/\Hid (wr.heap[W.heap.size+1]? =some (.cells #[.slice (some ⟨W.heap.size,0,none⟩) n n] 42 (0,0))))
 case atStart=>exact⟨0,zBL _,rfl,rfl,(al0).alloc (by simp) _,by simp,kH (by rw[show(fillC (T.valsTo t env 0) n).toArray=Array.replicate n (.int .u32 0)from aPi n];exact aA1 (heap_alloc_new W _) _),kH (aC2 W _ _)⟩
 case round=>
  obtain⟨j,hj,rfl,hgk,hbw,hsz,HG,HO⟩:=hrel;have Hgk:=kH hgk;clear hgk
  by_cases hlt:j<n
  ·obtain⟨x,b,off,A,c,hx,rfl,hb,h0,h1,h2,h3,h4,hs,i0,i1⟩:=aBf (HT.out.below aAh hbw) hlt;have Hx:=kH hx;have hcase0:=Hsm.out x (zAC hx);have Hval:=kH (show T.valsTo t env (j+1)=T.valsTo t env j ++ [T.val t (T.valsTo t env j) env x]from by rw[T.valsTo,aAi hx]);have Hnod:=kH (show T.Nod t env (T.valsTo t env j) x from HS.out.nod (T.aFs HS.out j (by rw[Hlen.out];omega)) (by rw[T.valsTo_len];exact hx));obtain⟨vv,hvv⟩:∃vv,vv=T.val t (T.valsTo t env j) env x:=⟨_,rfl⟩;rw[<-hvv]at Hval;have Hvv:=kH hvv;have Hs:=kH hs;have Hb:=kH hbw;obtain⟨W1,hW1⟩:∃W1,W1=wr.alloc (.cells #[.int .i64 x.op, .int .i64 x.w, .int .i64 x.fl, .slice A x.args.length c, .int .u32 x.imm] 56):=⟨_,rfl⟩;have hB1:Below wr.heap.size wr W1:=by rw[hW1];exact al0
   have hr1:W1.heap[wr.heap.size]? =some (.cells #[.int .i64 x.op, .int .i64 x.w, .int .i64 x.fl, .slice A x.args.length c, .int .u32 x.imm] 56 (0,0)):=by rw[hW1];exact heap_alloc_new wr _
   have HB1:=kH hB1;obtain⟨ov⟩:=ov_ex W1;have Hs1:=kH (show W1.heap.size=wr.heap.size+1 from by rw[hW1];simp);have hX:W1.cell? ⟨wr.heap.size,0,none⟩=some (.int .i64 x.op)/\W1.cell? ⟨wr.heap.size,1,none⟩=some (.int .i64 x.w)/\W1.cell? ⟨wr.heap.size,3,none⟩=some (.slice A x.args.length c)/\W1.cell? ⟨wr.heap.size,4,none⟩=some (.int .u32 x.imm):=by
    refine⟨?_,?_,?_,?_⟩
    all_goals rw[cell_of_row _ _ _ _ _ (0,0) hr1];rfl
   obtain⟨x0,x1,x3,x4⟩:=hX;have HG1:=kH (aBt HB1 HG.out);have HO1:=kH (aBt HB1 HO.out);have ho1:W1.cell? ⟨W.heap.size+1,0,none⟩=some (.slice (some ⟨W.heap.size,0,none⟩) n n):=by rw[cell_of_row _ _ _ _ _ (0,0) HO1.out];rfl
   have Hb1:=kH (show Below W.heap.size W W1 from Hb.out.trans (HB1.out.mono Hb.out.size));have Hfin:=kH (show∀(X:World) (u:Int),Below W1.heap.size W1 X->vv=u->Below W.heap.size W (X.setCell ⟨W.heap.size,j,none⟩ (.int .u32 u))/\W.heap.size+1<(X.setCell ⟨W.heap.size,j,none⟩ (.int .u32 u)).heap.size/\Hid ((X.setCell ⟨W.heap.size,j,none⟩ (.int .u32 u)).heap[W.heap.size]? =some (.cells (fillC (T.valsTo t env (j+1)) n).toArray 45 (0,0)))/\Hid ((X.setCell ⟨W.heap.size,j,none⟩ (.int .u32 u)).heap[W.heap.size+1]? =some (.cells #[.slice (some ⟨W.heap.size,0,none⟩) n n] 42 (0,0)))from fun X u hX hu=>by
    have hXs:=hX.size;have e1:=Hs1.out;refine⟨(Hb1.out.trans (hX.mono Hb1.out.size)).setCell (p:=⟨W.heap.size,j,none⟩) (zBJ _) _,by simp;omega,kH ?_,kH ?_⟩
    ·subst hu;rw[Hval.out];exact aPj (aBt (kH hX) HG1.out) (T.valsTo_len _ _ _) hlt
    ·rw[heap_setCell_other _ _ _ _ (by simp)];exact aBt (kH hX) HO1.out)
   have HfinZ:=kH (show∀(X:World),Below W1.heap.size W1 X->vv=0->Below W.heap.size W X/\W.heap.size+1<X.heap.size/\Hid (X.heap[W.heap.size]? =some (.cells (fillC (T.valsTo t env (j+1)) n).toArray 45 (0,0)))/\Hid (X.heap[W.heap.size+1]? =some (.cells #[.slice (some ⟨W.heap.size,0,none⟩) n n] 42 (0,0)))from fun X hX hu=>by
    have hXs:=hX.size;have e1:=Hs1.out;refine⟨Hb1.out.trans (hX.mono Hb1.out.size),by omega,kH ?_,kH (aBt (kH hX) HO1.out)⟩;subst hu;rw[Hval.out,aPx (by rw[T.valsTo_len];exact hlt)];exact aBt (kH hX) HG1.out)
   have hsf:∀(X:World),Below W1.heap.size W1 X->(∃v0,X.cell? ⟨W.heap.size,j,none⟩=some v0)/\X.frozen? ⟨W.heap.size,j,none⟩=false:=fun X hX=>by
    obtain⟨q1,q2⟩:=aPk (aBt (kH hX) HG1.out) (a:=j) (by rw[T.valsTo_len];omega) hlt;exact⟨Option.isSome_iff_exists.1 q1,q2⟩
   have Hsf:=kH hsf;have HClo:=kH (show∀(u:World) (i:Nat),i<x.args.length->0<=x.args.getD i 0/\x.args.getD i 0<(j:Int)->Calls prog 143 #[.int .i64 (i:Int), .pointer (some ⟨W.heap.size+1,0,none⟩), .pointer (some ⟨wr.heap.size,0,none⟩)] (ov.f u) (fun e w'=>e= .returned (.int .u32 (T.at_ (T.valsTo t env j) x i))/\∃m,w'=ov.f m)from fun u i hi ha=>by
    have hV:=(aPw HG1.out (by rw[T.valsTo_len];omega) hn).below (aAd _) (ov.below u);have hA:=(hs.below (aAd _) hB1).below (aAd _) (ov.below u);have:=aN0 _ x.args i (W.heap.size+1) wr.heap.size n x.args.length c n _ A (ov.f u) hV hA (ov.cell ho1 u) (ov.cell x3 u) hi ⟨ha.1,by omega⟩;have he:(T.valsTo t env j ++ List.replicate (n- (T.valsTo t env j).length) (0:Int)).getD (x.args.getD i 0).toNat 0=T.at_ (T.valsTo t env j) x i:=by unfold T.at_;exact T.aNj (by rw[T.valsTo_len];omega)
    rw[he]at this;exact aJr this)
   obtain⟨op,w,fl,args,imm⟩:=x
   dsimp only at h0 h1 h2 h3 h4 x0 x1 x3 x4 i0 i1 hW1
   clear hx hvv hs hbw hB1 hr1 hsf
   dsimp only at hcase0
   rcases hcase0 with rfl | rfl | rfl
   ·have Hv:=kH (show vv=imm from Hvv.out.trans (T.val_0 rfl));obtain⟨⟨v0,hv0⟩,hf0⟩:=Hsf.out W1 (Below.refl _ _);subst hW1;go_wp2;obtain⟨g1,g2,g3,g4⟩:=Hfin.out _ imm (Below.refl _ _) Hv.out
    go_roundg (gk-1)
    case measure=>have:=Hgk.out;omega
    case rel=>have:=Hgk.out;exact⟨j+1,by omega,by go_num,by omega,g1,g2,g3,g4⟩
   ·have Hi:=kH (show imm<4 from by have:=Hnod.out.imm;unfold T.immOk at this;simpa using this);obtain⟨v,rfl⟩:∃v:Nat,imm=v:=⟨imm.toNat,by omega⟩;have hv4:v<4:=by have:=Hi.out;omega
    obtain⟨y,be,offe,ue,hy,rfl,hbe,hce,hue⟩:=(HE.out.below (aAd _) Hb1.out).at_ hv4;obtain rfl:ue= .int .u32 y:=hue;have Hv:=kH (show vv=y from by rw[Hvv.out,T.aSu rfl];exact aAi hy);have o1:=ov.cell ho1;have o2:=ov.cell hce;have o3:=ov.cell x4;clear hy hbe hce;rw[hW1]at x0;go_wp2;rw[<-hW1]at x0⊢;clear hW1 h0 h1 h2 h3 h4;refine aDe ov (by kernel_rfl) (by kernel_rfl) ?_
    dsimp only[aEv,aEu]
    repeat(go_big_quiet_step (fail))
    refine wpQuiet_nil ?_;clear o1 o2 o3 x0 x1 x3 x4;rintro _ ⟨u,rfl⟩ K hK;have hb2:=ov.below u;obtain⟨⟨v0,hv0⟩,hf0⟩:=Hsf.out _ hb2;obtain⟨g1,g2,g3,g4⟩:=Hfin.out _ (y) hb2 Hv.out;generalize ov.f u=w2 at hv0 hf0 g1 g2 g3 g4⊢;clear hb2;go_wp2;refine hK _ _ ?_;clear hK K;go_wp2
    go_roundg (gk-1)
    case measure=>have:=Hgk.out;omega
    case rel=>have:=Hgk.out;exact⟨j+1,by omega,by go_num,by omega,g1,g2,g3,g4⟩
   ·obtain⟨hl,m0,m9,ew⟩:=Hnod.out.cmp rfl
    dsimp only at hl m0 m9
    have hlo0:=Hnod.out.lo 0 (by dsimp only at hl⊢;omega);rw[T.valsTo_len]at hlo0
    dsimp only at hlo0
    have hlo1:=Hnod.out.lo 1 (by dsimp only at hl⊢;omega);rw[T.valsTo_len]at hlo1
    dsimp only at hlo1
    have hzw0:=Hnod.out.wd 0 (by dsimp only at hl⊢;omega);have ha0:=Hnod.out.at_ 0 (by dsimp only at hl⊢;omega);have ha1:=Hnod.out.at_ 1 (by dsimp only at hl⊢;omega);rw[ew]at ha1;obtain⟨a0,hga0⟩:∃a0,a0=T.at_ (T.valsTo t env j) ⟨14,w,fl,args,imm⟩ 0:=⟨_,rfl⟩;obtain⟨a1,hga1⟩:∃a1,a1=T.at_ (T.valsTo t env j) ⟨14,w,fl,args,imm⟩ 1:=⟨_,rfl⟩;have HC0:=kH (show∀u,Calls prog 143 #[.int .i64 0, .pointer (some ⟨W.heap.size+1,0,none⟩), .pointer (some ⟨wr.heap.size,0,none⟩)] (ov.f u) (fun e w'=>e= .returned (.int .u32 a0)/\∃m,w'=ov.f m)from fun u=>by rw[hga0];exact HClo.out u 0 (by dsimp only at hl⊢;omega) hlo0);have HC1:=kH (show∀u,Calls prog 143 #[.int .i64 1, .pointer (some ⟨W.heap.size+1,0,none⟩), .pointer (some ⟨wr.heap.size,0,none⟩)] (ov.f u) (fun e w'=>e= .returned (.int .u32 a1)/\∃m,w'=ov.f m)from fun u=>by rw[hga1];exact HClo.out u 1 (by dsimp only at hl⊢;omega) hlo1);obtain⟨y0,ba,offa,ua,hy,hA0,_,hca,hua⟩:=(Hs.out.below (aAd _) HB1.out).at_ (k:=0) (show 0<args.length by omega);subst hA0;rw[zBI]at hca;obtain rfl:ua= .int .i64 y0:=hua;have hlo9:=hlo0;rw[aAi hy]at hlo9;obtain⟨q,rfl⟩:∃q:Nat,y0=q:=⟨y0.toNat,by omega⟩;have hqn:q<n:=by omega
    obtain⟨zz,bz,offz,A2,c2,hz,hAz,hbz,_,hw2,_⟩:=aBf (HT.out.below aAh Hb1.out) (j:=q) hqn;cases hAz;have ewd:T.wd t ⟨14,w,fl,args,imm⟩ 0=zz.w:=by unfold T.wd;dsimp only;rw[aAi hy,zBA,aAi hz]
    obtain⟨zw,hzw⟩:∃zw,zw=zz.w:=⟨_,rfl⟩;rw[<-hzw]at ewd hw2;have o5:=ov.cell hca;have o6:=ov.cell hw2;have hv9:=Hvv.out.trans (T.aSv rfl)
    dsimp only at hv9
    rw[<-hga0,<-hga1,ewd]at hv9;rw[ewd]at ha0 ha1 hzw0;rw[<-hga0]at ha0;rw[<-hga1]at ha1;have hQ:=fun W':World=>aKd imm zw a0 a1 W' m0 m9 hzw0.1 hzw0.2 ha0.1 ha0.2 ha1.1 ha1.2
    generalize T.cmp imm zw a0 a1=cc at hv9 hQ;have HQ:=kH (show∀u,Calls prog 144 #[.int .i64 imm, .int .i64 zw, .int .u32 a0, .int .u32 a1] (ov.f u) (fun e w'=>e= .returned (.tuple #[.bool cc, .int .i64 0])/\∃m,w'=ov.f m)from fun u=>aFv (hQ _));have hle3:=Hs.out.le
    dsimp only at hle3
    rw[hl]at h3 x3 hW1 hle3;have o3:=ov.cell x4;have o4:=ov.cell x3;clear hQ hga0 hga1 hzw ewd hz hy ha0 ha1 ew hzw0 hlo0 hlo1 hlo9 HClo hl hca hw2 hbz m0 m9;rw[hW1]at x0;go_wp2;rw[<-hW1]at x0⊢;clear hW1 h0 h1 h2 h3 h4;refine aDq ov (by kernel_rfl) (by kernel_rfl) ?_
    repeat(go_big_quiet_step ((first |(go_at_call 143;with_reducible exact HC0.out _) |(go_at_call 143;with_reducible exact HC1.out _) |(go_at_call 144;with_reducible exact HQ.out _))))
    refine wpQuiet_nil ?_;clear o3 o4 o5 o6 x0 x1 x3 x4 HC0 HC1 HQ;rintro _ ⟨u,rfl⟩;have hb2:=ov.below u;cases cc
    ·have Hv:=kH (show vv=0 from by rw[hv9];simp);clear hv9;obtain⟨g1,g2,g3,g4⟩:=HfinZ.out _ hb2 Hv.out;generalize ov.f u=w2 at g1 g2 g3 g4⊢;clear hb2;go_wp2
     go_roundg (gk-1)
     case measure=>have:=Hgk.out;omega
     case rel=>have:=Hgk.out;exact⟨j+1,by omega,by go_num,by omega,g1,g2,g3,g4⟩
    ·have Hv:=kH (show vv=1 from by rw[hv9];simp);clear hv9;obtain⟨⟨v0,hv0⟩,hf0⟩:=Hsf.out _ hb2;obtain⟨g1,g2,g3,g4⟩:=Hfin.out _ 1 hb2 Hv.out;have ho2:=ov.cell ho1 u;generalize ov.f u=w2 at hv0 hf0 g1 g2 g3 g4 ho2⊢;clear hb2;go_wp2
     go_roundg (gk-1)
     case measure=>have:=Hgk.out;omega
     case rel=>have:=Hgk.out;exact⟨j+1,by omega,by go_num,by omega,g1,g2,g3,g4⟩
  ·obtain rfl:j=n:=by omega
   have hrow:=HG.out;rw[aNf (T.valsTo_len t env j),show T.valsTo t env j=T.vals t env from by unfold T.vals;rw[Hlen.out]]at hrow;have ho1:wr.cell? ⟨W.heap.size+1,0,none⟩=some (.slice (some ⟨W.heap.size,0,none⟩) j j):=by rw[cell_of_row _ _ _ _ _ (0,0) HO.out];rfl
   have Hrow:=kH hrow;have Hb:=kH hbw;clear hrow hbw;go_wp2;go_ret;exact⟨W.heap.size,rfl,zBJ _,Hrow.out,Hb.out⟩
theorem aUo(t:List T.Nd)(env:List Int)(n ct ce:Nat)(At Ae:Option Addr)(W:World)(hT:StAt 5 NdR W At n t)(hE:SlAt (IntR .u32) W Ae 4 env)(hv:T.valid true t=0)(he:T.EnvOk t env)(hsm:∀x∈t,x.op=0\/x.op=33\/x.op=14):
 Calls prog 66 #[.slice At n ct, .slice Ae 4 ce] W fun e w'=>∃g,e= .returned (.tuple #[.slice (some ⟨g,0,none⟩) n n, .int .i64 0])/\W.heap.size<=g/\w'.heap[g]? =some (.cells ((T.vals t env).map (Value.int .u32)).toArray 45 (0,0))/\Below W.heap.size W w':=by
 have HWs:=kH (aDs t n ct At W hT);have hlen:=hT.len;have hn:=(aBk hv).2.1;have HV:=kH (fun W' (hb:Below W.heap.size W W')=>aS4 t env n ct ce At Ae W' (hT.below aAh hb) (hE.below (aAd _) hb) (T.aNk hv (aBq hT) he) (by omega) hsm);obtain⟨v1,v2,v3,v4,v5⟩:=aBk hv;have Hok:=kH (T.aFc v3 (aBq hT));have HE:=kH hE;have Hv:=kH hv;have He:=kH he;have Hi:=kH (aBq hT);have HM:=kH (fun z (h0:1<=z) (h1:z<=32) W'=>aL4 z W');have Hsh:=kH v3;have hle:=hT.le;clear hT hE hv he v1 v2 v3 v4 v5 hlen hn
 go_enter func66,ntmps66
 go_wp2_with fail
 refine HWs.out.mono ?_;rintro e w1 ⟨hb1,h |⟨_,g,rfl,hg,hrow⟩⟩
 ·exact absurd Hv.out h.1
 have Hb1:=kH hb1;have Hrow:=kH hrow;clear hb1 hrow;go_wp2
 go_loopg [25] (5) (fun gh i wr=>∃(k:Nat),k<=4/\i= .int .i64 (k:Int)/\gh+k=5/\w1=wr)
 case atStart=>exact⟨0,by omega,rfl,rfl,rfl⟩
 case round=>
  obtain⟨k,hk,rfl,hgk,rfl⟩:=hrel;have Hgk:=kH hgk;clear hgk
  by_cases hlt:k<4
  ·obtain⟨z,hz⟩:=aLa t hlt;have hc:w1.cell? ⟨g,k,none⟩=some (.int .i64 z):=by rw[cell_of_row _ _ _ _ _ (0,0) Hrow.out,zAV,zAW,hz];rfl
   by_cases hz0:z=0
   ·subst hz0;clear hz;go_wp2
    go_roundg (gk-1)
    case measure=>have:=Hgk.out;omega
    case rel=>have:=Hgk.out;exact⟨k+1,by omega,by go_num,by omega,rfl⟩
   ·obtain⟨i,y,hy,h33,hyv,hyw⟩:=T.aFr hz hz0;have hs:=T.aAo (Hsh.out i y hy);have hz1:1<=z:=by rw[<-hyw];exact hs.2.2.1
    have hz2:z<=32:=by rw[<-hyw];exact hs.2.2.2.1
    obtain⟨x,be,offe,ue,hx,rfl,hbe,hce,hue⟩:=(HE.out.below (aAd _) Hb1.out).at_ hlt;obtain rfl:ue= .int .u32 x:=hue;have hfit:=He.out.fit k z hz hz0;rw[aAi hx]at hfit;have hm:decide (B.pw z-1<x)=false:=by simp;omega
    have hq:(z == 0)=false:=by simpa using hz0
    have hM:=HM.out z hz1 hz2;rw[B.aBj.2 ⟨hz1,hz2⟩]at hM;have HM2:=kH hM;clear hx hbe hfit hy h33 hyv hyw hs hz hz0 hz1 hz2 hM
    go_wp2_with (go_at_call 112;(with_reducible refine(HM2.out _).mono ?_);rintro e w3 ⟨rfl,rfl⟩)
    go_roundg (gk-1)
    case measure=>have:=Hgk.out;omega
    case rel=>have:=Hgk.out;exact⟨k+1,by omega,by go_num,by omega,rfl⟩
  ·obtain rfl:k=4:=by omega
   go_wp2_with fail
   refine(HV.out _ Hb1.out).mono ?_;rintro e w2 ⟨g2,rfl,hg2,hrow2,hb2⟩;have Hb2:=kH (Hb1.out.trans (hb2.mono Hb1.out.size));have Hg2:=kH (zBK Hb1.out.size hg2);have Hrow2:=kH hrow2;clear hb2 hg2 hrow2;go_wp2;go_ret2;exact⟨g2,rfl,Hg2.out,Hrow2.out,Hb2.out⟩
theorem aZ7(t:List T.Nd)(env:List Int)(n ct ce:Nat)(At Ae:Option Addr)(W:World)(hT:StAt 5 NdR W At n t)(hE:SlAt (IntR .u32) W Ae 4 env)(hv:T.valid true t=0)(he:T.EnvOk t env)(hsm:∀x∈t,x.op=0\/x.op=33\/x.op=14):
 Calls prog 42 #[.slice At n ct, .slice Ae 4 ce] W fun e w'=>e= .returned (.tuple #[.int .u32 ((T.vals t env).getD (n-1) 0), .int .i64 0])/\Below W.heap.size W w':=by
 have HV:=kH (aUo t env n ct ce At Ae W hT hE hv he hsm);have hlen:=hT.len;have hn:=(aBk hv).1;have hle:=hT.le;have Hl:=kH (show(T.vals t env).length=n from(T.aR3 t env).trans hlen);rw[hlen]at hn;obtain⟨v,hvv⟩:∃v,v=(T.vals t env).getD (n-1) 0:=⟨_,rfl⟩;rw[<-hvv];have Hvv:=kH hvv;clear hT hE hv he hlen hvv
 go_enter func42,ntmps42
 go_wp2_with fail
 refine HV.out.mono ?_;rintro e w1 ⟨g,rfl,hg,hrow,hb1⟩;have Hb1:=kH hb1;have hx:(T.vals t env)[n-1]? =some v:=by rw[Hvv.out,T.aEk (by rw[Hl.out];omega)];exact zAB _
 have hc:w1.cell? ⟨g,n-1,none⟩=some (.int .u32 v):=by rw[cell_of_row _ _ _ _ _ (0,0) hrow,zAV,zAW,hx];rfl
 have hs:((n:Int)-1).toNat=n-1:=by omega
 clear hb1 hrow hx hg;go_wp2;go_ret2;exact⟨rfl,Hb1.out⟩
theorem aXu(t:List T.Nd)(n ct:Nat)(At:Option Addr)(W:World)(hT:StAt 5 NdR W At n t)(hsm:∀x∈t,x.op=0\/x.op=33\/x.op=14)(hc0:aAb t=0)(h16:¬16<C.total (T.aAa t)):
 Calls prog 18 #[.slice At n ct] W fun e w'=>e= .returned (.tuple #[.int .i64 (aBi t).1, .int .i64 (aBi t).2])/\Below W.heap.size W w':=by
 have HC:=kH (aH4 t n ct At W hT);have HE:=kH (fun X (hX:Below W.heap.size W X)=>aDm t n ct At X (hT.below aAh hX));have Hi:=kH (aBq hT);have HT:=kH hT;obtain⟨ce,hce⟩:∃c,aAb t=c:=⟨_,rfl⟩;rw[hce]at HC;have Hce:=kH hce;clear hT hce;have Hsm:=kH hsm;obtain rfl:ce=0:=by rw[<-Hce.out];exact hc0
 clear hsm hc0;obtain⟨hv,_⟩:=aBa Hce.out;have hee:envsE t=if 16<C.total (T.aAa t)then(0,3)else(((2 ^ C.total (T.aAa t):Nat):Int),0):=by unfold envsE;rw[if_neg (by simp[hv])]
 have hco:aBi t=if 16<C.total (T.aAa t)then(0,3)else((C.cntTo t (C.nEnv t):Int),0):=by unfold aBi;rw[if_neg (by simp[Hce.out])]
 rw[hco];rw[hee]at HE;rw[if_neg h16];rw[if_neg h16]at HE;have htm:=(C.tm_of hv Hi.out).1;have hwl:=T.aA9 t;have HW:=kH (fun X (hX:Below W.heap.size W X)=>aDs t n ct At X (HT.out.below aAh hX));have hpw:2 ^ C.total (T.aAa t)<=65536:=zBK (zAJ (by decide) (show C.total (T.aAa t)<=16 by omega)) (by decide);obtain⟨p,hp⟩:∃p:Nat,2 ^ C.total (T.aAa t)=p:=⟨_,rfl⟩;rw[hp]at hpw HE;have hln:t.length=n:=HT.out.len;have Hp:=kH (And.intro htm (And.intro hwl (And.intro h16 (And.intro hp (And.intro hv hln)))));clear hco hee h16 htm hwl hp hv hln
 go_enter func18,ntmps18
 go_wp2_with fail
 refine HC.out.mono ?_;rintro e w1 ⟨rfl,hb1⟩;have HBk:=kH (HE.out w1 hb1);have Hb1:=kH hb1;clear hb1 HC HE
 go_wp2_with fail
 refine HBk.out.mono ?_;rintro e w2 ⟨rfl,hb2⟩;have HWk:=kH (HW.out w2 (Hb1.out.trans (hb2.mono Hb1.out.size)));have Hb2:=kH (Hb1.out.trans (hb2.mono Hb1.out.size));clear hb2 HBk HW
 go_wp2_with fail
 refine HWk.out.mono ?_;rintro e w3 ⟨hb,⟨hno,_⟩ |⟨_,g,rfl,hg,hrow⟩⟩
 ·exact absurd Hp.out.2.2.2.2.1 hno
 ·have H3:=kH (And.intro (Hb2.out.trans (hb.mono Hb2.out.size)) (And.intro hrow (zBK Hb2.out.size hg)));clear hb hg hrow HWk;have hmk:=fun(W':World)=>aBd (P:=prog) 42 45 (.int .u32 0) 4 underlying42 aC1 rfl .i64 .i64 4 4 (by omega) (by omega) (by omega) W'
  go_upto_region 10 with(fail)
  go_loopw [36,9] (fun s36 s9 wr=>∃k:Nat,k<=p/\s36= .int .i64 (k:Int)/\s9= .int .i64 ((C.cntTo t k:Nat):Int)/\Hid (Below w3.heap.size w3 wr)) (fun s _ _=>p- (intOf s).toNat)
  case atStart=>exact⟨0,zBL _,rfl,rfl,kH (Below.refl _ _)⟩
  case round=>
   obtain⟨k,hk,rfl,rfl,HL⟩:=hrel
   by_cases hlt:k<p
   ·have hkp:(k:Int) <(p:Int):=by omega
    go_upto_region 13 with(fail)
    obtain⟨ge,hge⟩:∃g,wr.heap.size=g:=⟨_,rfl⟩;obtain⟨w4,hw4⟩:∃w4,w4=wr.alloc (Obj.cells (Array.replicate 4 (Value.int IntKind.u32 0)) 45):=⟨_,rfl⟩;rw[<-hw4,hge];have hb4:Below w3.heap.size w3 w4:=by rw[hw4];exact HL.out.alloc HL.out.size _
    have hr4:w4.heap[ge]? =some (.cells ((ekN t k 0).map (Value.int .u32)).toArray 45 (0,0)):=by rw[hw4,<-hge,heap_alloc_new,aMu];rfl
    have H4:=kH (And.intro hb4 (And.intro hr4 (And.intro (show w3.heap.size<=ge by rw[<-hge];exact HL.out.size) (show C.total ((T.aAa t).take 0)=0 by simp[C.total]))));clear hw4 hge hb4 hr4
    go_upto_region 15 with(fail)
    go_loopw [43,12] (fun s43 s12 wr=>∃v:Nat,v<=4/\s43= .int .i64 (v:Int)/\s12= .int .i64 ((k / 2 ^ C.total ((T.aAa t).take v):Nat):Int)/\Hid (Below w3.heap.size w3 wr/\wr.heap[ge]? =some (.cells ((ekN t k v).map (Value.int .u32)).toArray 45 (0,0)))) (fun s _ _=>4- (intOf s).toNat)
    case atStart=>exact⟨0,by omega,rfl,by rw[H4.out.2.2.2,Nat.pow_zero,Nat.div_one],kH ⟨H4.out.1,H4.out.2.1⟩⟩
    case round=>
     obtain⟨v,hv4,rfl,rfl,HI⟩:=hrel
     by_cases hlt4:v<4
     ·obtain⟨z,hz⟩:∃z,(T.aAa t)[v]? =some z:=⟨_,zAB (by have:=Hp.out.2.1;omega)⟩;obtain⟨z0,z1⟩:=C.aCx Hp.out.1 hz;have hs:=aEp hz;have ht1:=C.aCp (T.aAa t) v (by have:=Hp.out.2.1;omega);have hea:=C.aF4 (T.aAa t) k v (by have:=Hp.out.2.1;omega);have hgd:(T.aAa t).getD v 0=z:=by rw[List.getD,hz];rfl
      rw[hgd]at ht1 hea;obtain⟨K,hK⟩:∃K,C.total ((T.aAa t).take v)=K:=⟨_,rfl⟩;obtain⟨m,rfl⟩:∃m:Nat,z=m:=⟨z.toNat,by omega⟩;rw[hK,zBA]at hs ht1 hea;rw[hK];obtain⟨q,hq⟩:∃q,k / 2 ^ K=q:=⟨_,rfl⟩;rw[hq]at hea⊢;have hqk:q<=k:=by rw[<-hq];exact Nat.div_le_self _ _
      have hm16:m<=16:=by have:=Hp.out.2.2.1;omega
      have hc:=(HI.out.1.cell (p:=⟨g,v,none⟩) (gA H3.out.2.1).1).trans (cell_of_row w3 g v _ _ (0,0) H3.out.2.1);rw[zAV,zAW,hz]at hc;have hc:wr.cell? ⟨g,v,none⟩=some (.int .i64 (m:Int)):=hc;have hv3:(v:Int) < 4:=by omega
      have hfz:wr.frozen? ⟨ge,v,none⟩=false:=aCm HI.out.2 _;have hcv:wr.cell? ⟨ge,v,none⟩=some (.int .u32 0):=by rw[cell_of_row _ _ _ _ _ (0,0) HI.out.2,zAV,zAW,aHa _ _ _ hlt4,if_neg (by omega)];rfl
      have Hs:=kH (And.intro hs (And.intro hea hq));clear hs ht1 hK hz hea hgd hq;have hmask:=aZ3 (q:=q) (m:=m) (by omega) hm16;have Hmask:=kH hmask;clear hmask;go_wp2;rw[Hmask.out];go_roundw
      case rel=>
       refine⟨v+1,by omega,by go_num,?_,kH ⟨HI.out.1.setCell (p:=⟨ge,v,none⟩) H4.out.2.2.1 _,?_⟩⟩
       ·rw[Hs.out.1,Nat.pow_add,<-Nat.div_div_eq_div_mul,Hs.out.2.2]
        congr 1
       ·rw[heap_setCell_same wr ge v _ _ _ HI.out.2,<-aO1 t k hlt4,Hs.out.2.1,List.map_set];simp
      case measure=>simp[intOf];omega
     ·obtain rfl:v=4:=by omega
      have hrow:=HI.out.2;rw[aMv]at hrow;have hel:(C.envK (T.aAa t) k).length=4:=by rw[C.aE6];exact Hp.out.2.1
      have hsl:=aGw hrow (by rw[hel];omega);rw[hel]at hsl;have hbw:Below W.heap.size W wr:=H3.out.1.trans (HI.out.1.mono (zBK H3.out.1.size (zBJ _)));have hev:=aZ7 t (C.envK (T.aAa t) k) n ct 4 At (some ⟨ge,0,none⟩) wr (HT.out.below aAh hbw) hsl Hp.out.2.2.2.2.1 (C.aDt Hp.out.1 k) Hsm.out;have hrv:(T.vals t (C.envK (T.aAa t) k)).getD (n-1) 0=C.rv t (C.envK (T.aAa t) k):=by unfold C.rv;rw[Hp.out.2.2.2.2.2]
      rw[hrv]at hev;obtain⟨rvv,hrvv⟩:∃r,C.rv t (C.envK (T.aAa t) k)=r:=⟨_,rfl⟩;rw[hrvv]at hev;have Hev:=kH hev;have Hr:=kH (And.intro hrvv HI.out.1);have hcn:=C.aHk t k;obtain⟨cn,hcn'⟩:∃c,C.cntTo t k=c:=⟨_,rfl⟩;rw[hcn']at hcn⊢;have Hcn:=kH hcn';have hwk:IntKind.i64.wrap ((cn:Int)+1)=((cn+1:Nat):Int):=by rw[IntWalk.i64_in _ (by omega)];omega
      clear hrow hel hsl hbw hev hrv hrvv hcn' HI
      by_cases h1:rvv=1
      ·subst h1
       go_wp2_with fail
       refine Hev.out.mono ?_;rintro e w5 ⟨rfl,hb5⟩;have Hb5:=kH (Hr.out.2.trans (hb5.mono Hr.out.2.size));clear hb5 Hev;go_wp2;go_roundw
       case rel=>exact⟨k+1,by omega,by go_num,by rw[C.cntTo,if_pos Hr.out.1,Hcn.out,Int.natCast_add];rfl,Hb5⟩
       case measure=>simp[intOf];omega
      ·have hq1:(rvv == 1)=false:=by simpa using h1
       have hne:=kH h1
       go_wp2_with fail
       refine Hev.out.mono ?_;rintro e w5 ⟨rfl,hb5⟩;have Hb5:=kH (Hr.out.2.trans (hb5.mono Hr.out.2.size));clear hb5 Hev h1;go_wp2;go_roundw
       case rel=>exact⟨k+1,by omega,by go_num,by rw[C.cntTo,if_neg (by rw[Hr.out.1];exact hne.out),Hcn.out,zBI],Hb5⟩
       case measure=>simp[intOf];omega
   ·obtain rfl:k=p:=by omega
    have hcn:C.cntTo t k=C.cntTo t (C.nEnv t):=by unfold C.nEnv;rw[Hp.out.2.2.2.1]
    rw[hcn];clear hcn hmk;go_wp2;go_ret2;exact⟨rfl,H3.out.1.trans (HL.out.mono H3.out.1.size)⟩
end
end Go.Proofs.YtchdbhggbdcapaaGreat
