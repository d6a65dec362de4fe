/- Part. -/
import Derived.Test.YtchdbhggbdcapaaGreatSuLX
import Derived.Test.YtchdbhggbdcapaaGreatSu50
import Derived.Test.YtchdbhggbdcapaaGreatSu12
import Derived.Test.YtchdbhggbdcapaaGreatSu21
set_option linter.unusedVariables false
set_option linter.unusedSimpArgs false
set_option maxRecDepth 100000
set_option maxHeartbeats 16000000
namespace Go.Proofs.YtchdbhggbdcapaaGreat
open _root_.Go.Proofs.Tryz
section
open Go.RowKit
theorem aUs(t:List T.Nd)(env:List Int)(n ct ce:Nat)(At Ae:Option Addr)(W:World)(hT:StAt 5 NdR W At n t)(hE:SlAt (IntR .u32) W Ae 4 env)(hS:T.Std t env)(hn:n<=1000000):
 Calls prog 113 #[.slice At n ct, .slice Ae 4 ce] W fun e w'=>∃g,e= .returned (.slice (some ⟨g,0,none⟩) n n)/\W.heap.size<=g/\w'.heap[g]? =some (.cells ((T.vals t env).map (Value.int .u32)).toArray 45 (0,0))/\Below W.heap.size W w':=by
 have HT:=kH hT;have HE:=kH hE;have HS:=kH hS;have Hlen:=kH hT.len;have hle:=hT.le;clear hT hE hS;have hmk:=fun(W':World)=>aBd (P:=prog) 42 45 (.int .u32 0) 4 underlying42 aC1 rfl .i64 .i64 n (n:Int) rfl (by omega) (by omega) W'
 go_enter func113,ntmps113
 go_wp2;clear hmk
 go_loopg [16] (n+1) (fun g i wr=>∃(j:Nat),j<=n/\i= .int .i64 (j:Int)/\g+j=n+1/\Below W.heap.size W wr/\W.heap.size+1<wr.heap.size/\Hid (wr.heap[W.heap.size]? =some (.cells (fillC (T.valsTo t env j) n).toArray 45 (0,0)))/\Hid (wr.heap[W.heap.size+1]? =some (.cells #[.slice (some ⟨W.heap.size,0,none⟩) n n] 42 (0,0))))
 case atStart=>exact⟨0,zBL _,rfl,rfl,(al0).alloc (by simp) _,by simp,kH (by rw[show(fillC (T.valsTo t env 0) n).toArray=Array.replicate n (.int .u32 0)from aPi n];exact aA1 (heap_alloc_new W _) _),kH (aC2 W _ _)⟩
 case round=>
  obtain⟨j,hj,rfl,hgk,hbw,hsz,HG,HO⟩:=hrel;have Hgk:=kH hgk;clear hgk
  by_cases hlt:j<n
  ·obtain⟨x,b,off,A,c,hx,rfl,hb,h0,h1,h2,h3,h4,hs,i0,i1⟩:=aBf (HT.out.below aAh hbw) hlt;have Hx:=kH hx;have Hval:=kH (show T.valsTo t env (j+1)=T.valsTo t env j ++ [T.val t (T.valsTo t env j) env x]from by rw[T.valsTo,aAi hx]);have Hnod:=kH (show T.Nod t env (T.valsTo t env j) x from HS.out.nod (T.aFs HS.out j (by rw[Hlen.out];omega)) (by rw[T.valsTo_len];exact hx));obtain⟨vv,hvv⟩:∃vv,vv=T.val t (T.valsTo t env j) env x:=⟨_,rfl⟩;rw[<-hvv]at Hval;have Hvv:=kH hvv;have Hs:=kH hs;have Hb:=kH hbw;obtain⟨W1,hW1⟩:∃W1,W1=wr.alloc (.cells #[.int .i64 x.op, .int .i64 x.w, .int .i64 x.fl, .slice A x.args.length c, .int .u32 x.imm] 56):=⟨_,rfl⟩;have hB1:Below wr.heap.size wr W1:=by rw[hW1];exact al0
   have hr1:W1.heap[wr.heap.size]? =some (.cells #[.int .i64 x.op, .int .i64 x.w, .int .i64 x.fl, .slice A x.args.length c, .int .u32 x.imm] 56 (0,0)):=by rw[hW1];exact heap_alloc_new wr _
   have HB1:=kH hB1;obtain⟨ov⟩:=ov_ex W1;have Hs1:=kH (show W1.heap.size=wr.heap.size+1 from by rw[hW1];simp);have hX:W1.cell? ⟨wr.heap.size,0,none⟩=some (.int .i64 x.op)/\W1.cell? ⟨wr.heap.size,1,none⟩=some (.int .i64 x.w)/\W1.cell? ⟨wr.heap.size,3,none⟩=some (.slice A x.args.length c)/\W1.cell? ⟨wr.heap.size,4,none⟩=some (.int .u32 x.imm):=by
    refine⟨?_,?_,?_,?_⟩
    all_goals rw[cell_of_row _ _ _ _ _ (0,0) hr1];rfl
   obtain⟨x0,x1,x3,x4⟩:=hX;have HG1:=kH (aBt HB1 HG.out);have HO1:=kH (aBt HB1 HO.out);have ho1:W1.cell? ⟨W.heap.size+1,0,none⟩=some (.slice (some ⟨W.heap.size,0,none⟩) n n):=by rw[cell_of_row _ _ _ _ _ (0,0) HO1.out];rfl
   have Hb1:=kH (show Below W.heap.size W W1 from Hb.out.trans (HB1.out.mono Hb.out.size));have Hfin:=kH (show∀(X:World) (u:Int),Below W1.heap.size W1 X->vv=u->Below W.heap.size W (X.setCell ⟨W.heap.size,j,none⟩ (.int .u32 u))/\W.heap.size+1<(X.setCell ⟨W.heap.size,j,none⟩ (.int .u32 u)).heap.size/\Hid ((X.setCell ⟨W.heap.size,j,none⟩ (.int .u32 u)).heap[W.heap.size]? =some (.cells (fillC (T.valsTo t env (j+1)) n).toArray 45 (0,0)))/\Hid ((X.setCell ⟨W.heap.size,j,none⟩ (.int .u32 u)).heap[W.heap.size+1]? =some (.cells #[.slice (some ⟨W.heap.size,0,none⟩) n n] 42 (0,0)))from fun X u hX hu=>by
    have hXs:=hX.size;have e1:=Hs1.out;refine⟨(Hb1.out.trans (hX.mono Hb1.out.size)).setCell (p:=⟨W.heap.size,j,none⟩) (zBJ _) _,by simp;omega,kH ?_,kH ?_⟩
    ·subst hu;rw[Hval.out];exact aPj (aBt (kH hX) HG1.out) (T.valsTo_len _ _ _) hlt
    ·rw[heap_setCell_other _ _ _ _ (by simp)];exact aBt (kH hX) HO1.out)
   have HfinZ:=kH (show∀(X:World),Below W1.heap.size W1 X->vv=0->Below W.heap.size W X/\W.heap.size+1<X.heap.size/\Hid (X.heap[W.heap.size]? =some (.cells (fillC (T.valsTo t env (j+1)) n).toArray 45 (0,0)))/\Hid (X.heap[W.heap.size+1]? =some (.cells #[.slice (some ⟨W.heap.size,0,none⟩) n n] 42 (0,0)))from fun X hX hu=>by
    have hXs:=hX.size;have e1:=Hs1.out;refine⟨Hb1.out.trans (hX.mono Hb1.out.size),by omega,kH ?_,kH (aBt (kH hX) HO1.out)⟩;subst hu;rw[Hval.out,aPx (by rw[T.valsTo_len];exact hlt)];exact aBt (kH hX) HG1.out)
   have hsf:∀(X:World),Below W1.heap.size W1 X->(∃v0,X.cell? ⟨W.heap.size,j,none⟩=some v0)/\X.frozen? ⟨W.heap.size,j,none⟩=false:=fun X hX=>by
    obtain⟨q1,q2⟩:=aPk (aBt (kH hX) HG1.out) (a:=j) (by rw[T.valsTo_len];omega) hlt;exact⟨Option.isSome_iff_exists.1 q1,q2⟩
   have Hsf:=kH hsf;have HClo:=kH (show∀(u:World) (i:Nat),i<x.args.length->0<=x.args.getD i 0/\x.args.getD i 0<(j:Int)->Calls prog 143 #[.int .i64 (i:Int), .pointer (some ⟨W.heap.size+1,0,none⟩), .pointer (some ⟨wr.heap.size,0,none⟩)] (ov.f u) (fun e w'=>e= .returned (.int .u32 (T.at_ (T.valsTo t env j) x i))/\∃m,w'=ov.f m)from fun u i hi ha=>by
    have hV:=(aPw HG1.out (by rw[T.valsTo_len];omega) hn).below (aAd _) (ov.below u);have hA:=(hs.below (aAd _) hB1).below (aAd _) (ov.below u);have:=aN0 _ x.args i (W.heap.size+1) wr.heap.size n x.args.length c n _ A (ov.f u) hV hA (ov.cell ho1 u) (ov.cell x3 u) hi ⟨ha.1,by omega⟩;have he:(T.valsTo t env j ++ List.replicate (n- (T.valsTo t env j).length) (0:Int)).getD (x.args.getD i 0).toNat 0=T.at_ (T.valsTo t env j) x i:=by unfold T.at_;exact T.aNj (by rw[T.valsTo_len];omega)
    rw[he]at this;exact aJr this)
   obtain⟨op,w,fl,args,imm⟩:=x
   dsimp only at h0 h1 h2 h3 h4 x0 x1 x3 x4 i0 i1 hW1
   clear hx hvv hs hbw hB1 hr1 hsf;have hcase:op=0\/op=33\/op=14\/op=15\/(16<=op/\op≠33)\/(op≠0/\op<14):=by omega
   rcases hcase with rfl | rfl | rfl | rfl | ho | ho
   ·have Hv:=kH (show vv=imm from Hvv.out.trans (T.val_0 rfl));obtain⟨⟨v0,hv0⟩,hf0⟩:=Hsf.out W1 (Below.refl _ _);subst hW1;go_wp2;obtain⟨g1,g2,g3,g4⟩:=Hfin.out _ imm (Below.refl _ _) Hv.out
    go_roundg (gk-1)
    case measure=>have:=Hgk.out;omega
    case rel=>have:=Hgk.out;exact⟨j+1,by omega,by go_num,by omega,g1,g2,g3,g4⟩
   ·have Hi:=kH (show imm<4 from by have:=Hnod.out.imm;unfold T.immOk at this;simpa using this);obtain⟨v,rfl⟩:∃v:Nat,imm=v:=⟨imm.toNat,by omega⟩;have hv4:v<4:=by have:=Hi.out;omega
    obtain⟨y,be,offe,ue,hy,rfl,hbe,hce,hue⟩:=(HE.out.below (aAd _) Hb1.out).at_ hv4;obtain rfl:ue= .int .u32 y:=hue;have Hv:=kH (show vv=y from by rw[Hvv.out,T.aSu rfl];exact aAi hy);have o1:=ov.cell ho1;have o2:=ov.cell hce;have o3:=ov.cell x4;clear hy hbe hce;rw[hW1]at x0;go_wp2;rw[<-hW1]at x0⊢;clear hW1 h0 h1 h2 h3 h4;refine aDe ov (by kernel_rfl) (by kernel_rfl) ?_
    dsimp only[aEv,aEu]
    repeat(go_big_quiet_step (fail))
    refine wpQuiet_nil ?_;clear o1 o2 o3 x0 x1 x3 x4;rintro _ ⟨u,rfl⟩ K hK;have hb2:=ov.below u;obtain⟨⟨v0,hv0⟩,hf0⟩:=Hsf.out _ hb2;obtain⟨g1,g2,g3,g4⟩:=Hfin.out _ (y) hb2 Hv.out;generalize ov.f u=w2 at hv0 hf0 g1 g2 g3 g4⊢;clear hb2;go_wp2;refine hK _ _ ?_;clear hK K;go_wp2
    go_roundg (gk-1)
    case measure=>have:=Hgk.out;omega
    case rel=>have:=Hgk.out;exact⟨j+1,by omega,by go_num,by omega,g1,g2,g3,g4⟩
   ·obtain⟨hl,m0,m9,ew⟩:=Hnod.out.cmp rfl
    dsimp only at hl m0 m9
    have hlo0:=Hnod.out.lo 0 (by dsimp only at hl⊢;omega);rw[T.valsTo_len]at hlo0
    dsimp only at hlo0
    have hlo1:=Hnod.out.lo 1 (by dsimp only at hl⊢;omega);rw[T.valsTo_len]at hlo1
    dsimp only at hlo1
    have hzw0:=Hnod.out.wd 0 (by dsimp only at hl⊢;omega);have ha0:=Hnod.out.at_ 0 (by dsimp only at hl⊢;omega);have ha1:=Hnod.out.at_ 1 (by dsimp only at hl⊢;omega);rw[ew]at ha1;obtain⟨a0,hga0⟩:∃a0,a0=T.at_ (T.valsTo t env j) ⟨14,w,fl,args,imm⟩ 0:=⟨_,rfl⟩;obtain⟨a1,hga1⟩:∃a1,a1=T.at_ (T.valsTo t env j) ⟨14,w,fl,args,imm⟩ 1:=⟨_,rfl⟩;have HC0:=kH (show∀u,Calls prog 143 #[.int .i64 0, .pointer (some ⟨W.heap.size+1,0,none⟩), .pointer (some ⟨wr.heap.size,0,none⟩)] (ov.f u) (fun e w'=>e= .returned (.int .u32 a0)/\∃m,w'=ov.f m)from fun u=>by rw[hga0];exact HClo.out u 0 (by dsimp only at hl⊢;omega) hlo0);have HC1:=kH (show∀u,Calls prog 143 #[.int .i64 1, .pointer (some ⟨W.heap.size+1,0,none⟩), .pointer (some ⟨wr.heap.size,0,none⟩)] (ov.f u) (fun e w'=>e= .returned (.int .u32 a1)/\∃m,w'=ov.f m)from fun u=>by rw[hga1];exact HClo.out u 1 (by dsimp only at hl⊢;omega) hlo1);obtain⟨y0,ba,offa,ua,hy,hA0,_,hca,hua⟩:=(Hs.out.below (aAd _) HB1.out).at_ (k:=0) (show 0<args.length by omega);subst hA0;rw[zBI]at hca;obtain rfl:ua= .int .i64 y0:=hua;have hlo9:=hlo0;rw[aAi hy]at hlo9;obtain⟨q,rfl⟩:∃q:Nat,y0=q:=⟨y0.toNat,by omega⟩;have hqn:q<n:=by omega
    obtain⟨zz,bz,offz,A2,c2,hz,hAz,hbz,_,hw2,_⟩:=aBf (HT.out.below aAh Hb1.out) (j:=q) hqn;cases hAz;have ewd:T.wd t ⟨14,w,fl,args,imm⟩ 0=zz.w:=by unfold T.wd;dsimp only;rw[aAi hy,zBA,aAi hz]
    obtain⟨zw,hzw⟩:∃zw,zw=zz.w:=⟨_,rfl⟩;rw[<-hzw]at ewd hw2;have o5:=ov.cell hca;have o6:=ov.cell hw2;have hv9:=Hvv.out.trans (T.aSv rfl)
    dsimp only at hv9
    rw[<-hga0,<-hga1,ewd]at hv9;rw[ewd]at ha0 ha1 hzw0;rw[<-hga0]at ha0;rw[<-hga1]at ha1;have hQ:=fun W':World=>aKd imm zw a0 a1 W' m0 m9 hzw0.1 hzw0.2 ha0.1 ha0.2 ha1.1 ha1.2
    generalize T.cmp imm zw a0 a1=cc at hv9 hQ;have HQ:=kH (show∀u,Calls prog 144 #[.int .i64 imm, .int .i64 zw, .int .u32 a0, .int .u32 a1] (ov.f u) (fun e w'=>e= .returned (.tuple #[.bool cc, .int .i64 0])/\∃m,w'=ov.f m)from fun u=>aFv (hQ _));have hle3:=Hs.out.le
    dsimp only at hle3
    rw[hl]at h3 x3 hW1 hle3;have o3:=ov.cell x4;have o4:=ov.cell x3;clear hQ hga0 hga1 hzw ewd hz hy ha0 ha1 ew hzw0 hlo0 hlo1 hlo9 HClo hl hca hw2 hbz m0 m9;rw[hW1]at x0;go_wp2;rw[<-hW1]at x0⊢;clear hW1 h0 h1 h2 h3 h4;refine aDq ov (by kernel_rfl) (by kernel_rfl) ?_
    repeat(go_big_quiet_step ((first |(go_at_call 143;with_reducible exact HC0.out _) |(go_at_call 143;with_reducible exact HC1.out _) |(go_at_call 144;with_reducible exact HQ.out _))))
    refine wpQuiet_nil ?_;clear o3 o4 o5 o6 x0 x1 x3 x4 HC0 HC1 HQ;rintro _ ⟨u,rfl⟩;have hb2:=ov.below u;cases cc
    ·have Hv:=kH (show vv=0 from by rw[hv9];simp);clear hv9;obtain⟨g1,g2,g3,g4⟩:=HfinZ.out _ hb2 Hv.out;generalize ov.f u=w2 at g1 g2 g3 g4⊢;clear hb2;go_wp2
     go_roundg (gk-1)
     case measure=>have:=Hgk.out;omega
     case rel=>have:=Hgk.out;exact⟨j+1,by omega,by go_num,by omega,g1,g2,g3,g4⟩
    ·have Hv:=kH (show vv=1 from by rw[hv9];simp);clear hv9;obtain⟨⟨v0,hv0⟩,hf0⟩:=Hsf.out _ hb2;obtain⟨g1,g2,g3,g4⟩:=Hfin.out _ 1 hb2 Hv.out;have ho2:=ov.cell ho1 u;generalize ov.f u=w2 at hv0 hf0 g1 g2 g3 g4 ho2⊢;clear hb2;go_wp2
     go_roundg (gk-1)
     case measure=>have:=Hgk.out;omega
     case rel=>have:=Hgk.out;exact⟨j+1,by omega,by go_num,by omega,g1,g2,g3,g4⟩
   ·obtain⟨hl,ew1,ew2,ha⟩:=Hnod.out.ite rfl
    dsimp only at hl
    have hlo0:=Hnod.out.lo 0 (by dsimp only at hl⊢;omega);rw[T.valsTo_len]at hlo0
    dsimp only at hlo0
    have hlo1:=Hnod.out.lo 1 (by dsimp only at hl⊢;omega);rw[T.valsTo_len]at hlo1
    dsimp only at hlo1
    have hlo2:=Hnod.out.lo 2 (by dsimp only at hl⊢;omega);rw[T.valsTo_len]at hlo2
    dsimp only at hlo2
    obtain⟨a0,hga0⟩:∃a0,a0=T.at_ (T.valsTo t env j) ⟨15,w,fl,args,imm⟩ 0:=⟨_,rfl⟩;obtain⟨a1,hga1⟩:∃a1,a1=T.at_ (T.valsTo t env j) ⟨15,w,fl,args,imm⟩ 1:=⟨_,rfl⟩;obtain⟨a2,hga2⟩:∃a2,a2=T.at_ (T.valsTo t env j) ⟨15,w,fl,args,imm⟩ 2:=⟨_,rfl⟩;have HC0:=kH (show∀u,Calls prog 143 #[.int .i64 0, .pointer (some ⟨W.heap.size+1,0,none⟩), .pointer (some ⟨wr.heap.size,0,none⟩)] (ov.f u) (fun e w'=>e= .returned (.int .u32 a0)/\∃m,w'=ov.f m)from fun u=>by rw[hga0];exact HClo.out u 0 (by dsimp only at hl⊢;omega) hlo0);have HC1:=kH (show∀u,Calls prog 143 #[.int .i64 1, .pointer (some ⟨W.heap.size+1,0,none⟩), .pointer (some ⟨wr.heap.size,0,none⟩)] (ov.f u) (fun e w'=>e= .returned (.int .u32 a1)/\∃m,w'=ov.f m)from fun u=>by rw[hga1];exact HClo.out u 1 (by dsimp only at hl⊢;omega) hlo1);have HC2:=kH (show∀u,Calls prog 143 #[.int .i64 2, .pointer (some ⟨W.heap.size+1,0,none⟩), .pointer (some ⟨wr.heap.size,0,none⟩)] (ov.f u) (fun e w'=>e= .returned (.int .u32 a2)/\∃m,w'=ov.f m)from fun u=>by rw[hga2];exact HClo.out u 2 (by dsimp only at hl⊢;omega) hlo2);have hv9:=Hvv.out.trans (T.aZm rfl);rw[<-hga0]at ha hv9;have hv8:(a0=0/\vv=a2)\/(a0=1/\vv=a1):=by
     rcases ha with h | h
     ·left;refine⟨h,?_⟩;rw[hv9,h,hga2];rfl
     ·right;refine⟨h,?_⟩;rw[hv9,h,hga1];rfl
    have hle3:=Hs.out.le
    dsimp only at hle3
    rw[hl]at h3 x3 hW1 hle3;clear hv9 ha hga0 hga1 hga2 ew1 ew2 hlo0 hlo1 hlo2 HClo hl;have o1:=ov.cell ho1;rcases hv8 with⟨rfl,hv7⟩ |⟨rfl,hv7⟩
    ·have Hv:=kH hv7;clear hv7;rw[hW1]at x0;go_wp2;rw[<-hW1]at x0⊢;clear hW1 h0 h1 h2 h3 h4;refine aDe ov (by kernel_rfl) (by kernel_rfl) ?_
     dsimp only[aEv,aEu]
     repeat(go_big_quiet_step ((first |(go_at_call 143;with_reducible exact HC0.out _) |(go_at_call 143;with_reducible exact HC1.out _) |(go_at_call 143;with_reducible exact HC2.out _))))
     refine wpQuiet_nil ?_;clear o1 x0 x1 x3 x4 HC0 HC1 HC2;rintro _ ⟨u,rfl⟩ K hK;have hb2:=ov.below u;obtain⟨⟨v0,hv0⟩,hf0⟩:=Hsf.out _ hb2;obtain⟨g1,g2,g3,g4⟩:=Hfin.out _ (a2) hb2 Hv.out;generalize ov.f u=w2 at hv0 hf0 g1 g2 g3 g4⊢;clear hb2;go_wp2;refine hK _ _ ?_;clear hK K;go_wp2
     go_roundg (gk-1)
     case measure=>have:=Hgk.out;omega
     case rel=>have:=Hgk.out;exact⟨j+1,by omega,by go_num,by omega,g1,g2,g3,g4⟩
    ·have Hv:=kH hv7;clear hv7;rw[hW1]at x0;go_wp2;rw[<-hW1]at x0⊢;clear hW1 h0 h1 h2 h3 h4;refine aDe ov (by kernel_rfl) (by kernel_rfl) ?_
     dsimp only[aEv,aEu]
     repeat(go_big_quiet_step ((first |(go_at_call 143;with_reducible exact HC0.out _) |(go_at_call 143;with_reducible exact HC1.out _) |(go_at_call 143;with_reducible exact HC2.out _))))
     refine wpQuiet_nil ?_;clear o1 x0 x1 x3 x4 HC0 HC1 HC2;rintro _ ⟨u,rfl⟩ K hK;have hb2:=ov.below u;obtain⟨⟨v0,hv0⟩,hf0⟩:=Hsf.out _ hb2;obtain⟨g1,g2,g3,g4⟩:=Hfin.out _ (a1) hb2 Hv.out;generalize ov.f u=w2 at hv0 hf0 g1 g2 g3 g4⊢;clear hb2;go_wp2;refine hK _ _ ?_;clear hK K;go_wp2
     go_roundg (gk-1)
     case measure=>have:=Hgk.out;omega
     case rel=>have:=Hgk.out;exact⟨j+1,by omega,by go_num,by omega,g1,g2,g3,g4⟩
   ·obtain⟨hl,hok⟩:=Hnod.out.ext ho.1 ho.2;have h3k:op=16\/op=17\/op=18:=by
     rcases hok.kk with h | h | h
     ·exact .inl h.1
     ·exact .inr (.inl h.1)
     ·exact .inr (.inr h.1)
    dsimp only at hl
    have hlo0:=Hnod.out.lo 0 (by dsimp only at hl⊢;omega);rw[T.valsTo_len]at hlo0
    dsimp only at hlo0
    obtain⟨a0,hga0⟩:∃a0,a0=T.at_ (T.valsTo t env j) ⟨op,w,fl,args,imm⟩ 0:=⟨_,rfl⟩;have HC0:=kH (show∀u,Calls prog 143 #[.int .i64 0, .pointer (some ⟨W.heap.size+1,0,none⟩), .pointer (some ⟨wr.heap.size,0,none⟩)] (ov.f u) (fun e w'=>e= .returned (.int .u32 a0)/\∃m,w'=ov.f m)from fun u=>by rw[hga0];exact HClo.out u 0 (by dsimp only at hl⊢;omega) hlo0);obtain⟨y0,ba,offa,ua,hy,hA0,_,hca,hua⟩:=(Hs.out.below (aAd _) HB1.out).at_ (k:=0) (show 0<args.length by omega);subst hA0;rw[zBI]at hca;obtain rfl:ua= .int .i64 y0:=hua;have hlo9:=hlo0;rw[aAi hy]at hlo9;obtain⟨q,rfl⟩:∃q:Nat,y0=q:=⟨y0.toNat,by omega⟩;have hqn:q<n:=by omega
    obtain⟨zz,bz,offz,A2,c2,hz,hAz,hbz,_,hw2,_⟩:=aBf (HT.out.below aAh Hb1.out) (j:=q) hqn;cases hAz;have ewd:T.wd t ⟨op,w,fl,args,imm⟩ 0=zz.w:=by unfold T.wd;dsimp only;rw[aAi hy,zBA,aAi hz]
    obtain⟨zw,hzw⟩:∃zw,zw=zz.w:=⟨_,rfl⟩;rw[<-hzw]at ewd hw2;have o5:=ov.cell hca;have o6:=ov.cell hw2;have hv9:=Hvv.out.trans (T.aZn ho.1 ho.2)
    dsimp only at hv9 hok
    rw[<-hga0,ewd]at hok hv9;have HQ:=kH (show∀u,Calls prog 145 #[.int .i64 op, .int .i64 zw, .int .i64 w, .int .u32 a0] (ov.f u) (fun e w'=>e= .returned (.tuple #[.int .u32 vv, .int .i64 0])/\∃m,w'=ov.f m)from fun u=>by rw[hv9];exact aFv (aTq op zw w a0 _ hok));have hle3:=Hs.out.le
    dsimp only at hle3
    rw[hl]at h3 x3 hW1 hle3;have o1:=ov.cell ho1;have o2:=ov.cell x0;have o3:=ov.cell x1;have o4:=ov.cell x3;clear hv9 hok hga0 hzw ewd hz hy hlo0 hlo9 HClo hl hca hw2 hbz ho;rcases h3k with rfl | rfl | rfl
    all_goals
     skip
     rw[hW1]at x0;go_wp2;rw[<-hW1]at x0⊢;clear hW1 h0 h1 h2 h3 h4;refine aDe ov (by kernel_rfl) (by kernel_rfl) ?_
     dsimp only[aEv,aEu]
     repeat(go_big_quiet_step ((first |(go_at_call 143;with_reducible exact HC0.out _) |(go_at_call 145;with_reducible exact HQ.out _))))
     refine wpQuiet_nil ?_;clear o1 o2 o3 o4 o5 o6 x0 x1 x3 x4 HC0 HQ;rintro _ ⟨u,rfl⟩ K hK;have hb2:=ov.below u;obtain⟨⟨v0,hv0⟩,hf0⟩:=Hsf.out _ hb2;obtain⟨g1,g2,g3,g4⟩:=Hfin.out _ (vv) hb2 rfl;generalize ov.f u=w2 at hv0 hf0 g1 g2 g3 g4⊢;clear hb2;go_wp2;refine hK _ _ ?_;clear hK K;go_wp2
     go_roundg (gk-1)
     case measure=>have:=Hgk.out;omega
     case rel=>have:=Hgk.out;exact⟨j+1,by omega,by go_num,by omega,g1,g2,g3,g4⟩
   ·obtain⟨hl,o1',o13,ew0,ew1⟩:=Hnod.out.bin ho.1 ho.2
    dsimp only at hl
    have ha0:=Hnod.out.at_ 0 (by dsimp only at hl⊢;omega);have ha1:=Hnod.out.at_ 1 (by dsimp only at hl⊢;omega);rw[ew0]at ha0;rw[ew1]at ha1;have hw0:=Hnod.out.w0;have hw1:=Hnod.out.w1
    dsimp only at o1' o13 ha0 ha1 hw0 hw1
    have hlo0:=Hnod.out.lo 0 (by dsimp only at hl⊢;omega);rw[T.valsTo_len]at hlo0
    dsimp only at hlo0
    have hlo1:=Hnod.out.lo 1 (by dsimp only at hl⊢;omega);rw[T.valsTo_len]at hlo1
    dsimp only at hlo1
    obtain⟨a0,hga0⟩:∃a0,a0=T.at_ (T.valsTo t env j) ⟨op,w,fl,args,imm⟩ 0:=⟨_,rfl⟩;obtain⟨a1,hga1⟩:∃a1,a1=T.at_ (T.valsTo t env j) ⟨op,w,fl,args,imm⟩ 1:=⟨_,rfl⟩;have HC0:=kH (show∀u,Calls prog 143 #[.int .i64 0, .pointer (some ⟨W.heap.size+1,0,none⟩), .pointer (some ⟨wr.heap.size,0,none⟩)] (ov.f u) (fun e w'=>e= .returned (.int .u32 a0)/\∃m,w'=ov.f m)from fun u=>by rw[hga0];exact HClo.out u 0 (by dsimp only at hl⊢;omega) hlo0);have HC1:=kH (show∀u,Calls prog 143 #[.int .i64 1, .pointer (some ⟨W.heap.size+1,0,none⟩), .pointer (some ⟨wr.heap.size,0,none⟩)] (ov.f u) (fun e w'=>e= .returned (.int .u32 a1)/\∃m,w'=ov.f m)from fun u=>by rw[hga1];exact HClo.out u 1 (by dsimp only at hl⊢;omega) hlo1);have hv9:=Hvv.out.trans (T.aVt ho.1 ho.2)
    dsimp only at hv9
    rw[<-hga0,<-hga1]at hv9;rw[<-hga0]at ha0;rw[<-hga1]at ha1;have hpl:=B.pw_le hw1;have htot:B.total op w a0 a1=(vv,0):=by
     unfold B.total B.okOp B.isW;rw[B.aBj.2 ⟨hw0,hw1⟩,if_pos (by simp[o1',o13,ha0.2,ha1.2]),hv9]
    have HQ:=kH (show∀u,Calls prog 146 #[.int .i64 op, .int .i64 w, .int .u32 a0, .int .u32 a1] (ov.f u) (fun e w'=>e= .returned (.tuple #[.int .u32 vv, .int .i64 0])/\∃m,w'=ov.f m)from fun u=>aFv ((bAf op w a0 a1 _ (by simp[Lit.wf,IntKind.min,IntKind.max,IntKind.signed,IntKind.bits];omega) ha0.1 ha1.1).mono fun e w' ⟨h1,h2⟩=>⟨by rw[htot]at h1;exact h1,h2⟩));have hle3:=Hs.out.le
    dsimp only at hle3
    rw[hl]at h3 x3 hW1 hle3;have q0:(op == 0)=false:=by simp;omega
    have q33:(op == 33)=false:=by simp;omega
    have q14:(op == 14)=false:=by simp;omega
    have q15:(op == 15)=false:=by simp;omega
    have q16:decide (16<=op)=false:=by simp;omega
    have o1:=ov.cell ho1;have o2:=ov.cell x0;have o3:=ov.cell x1;clear htot hpl hv9 hga0 hga1 hlo0 hlo1 HClo hl ho o1' o13 ew0 ew1 ha0 ha1 hw0 hw1
    skip
    rw[hW1]at x0;go_wp2;rw[<-hW1]at x0⊢;clear hW1 h0 h1 h2 h3 h4;refine aDe ov (by kernel_rfl) (by kernel_rfl) ?_
    dsimp only[aEv,aEu]
    repeat(go_big_quiet_step ((first |(go_at_call 143;with_reducible exact HC0.out _) |(go_at_call 143;with_reducible exact HC1.out _) |(go_at_call 146;with_reducible exact HQ.out _))))
    refine wpQuiet_nil ?_;clear o1 o2 o3 x0 x1 x3 x4 HC0 HC1 HQ q0 q33 q14 q15 q16;rintro _ ⟨u,rfl⟩ K hK;have hb2:=ov.below u;obtain⟨⟨v0,hv0⟩,hf0⟩:=Hsf.out _ hb2;obtain⟨g1,g2,g3,g4⟩:=Hfin.out _ (vv) hb2 rfl;generalize ov.f u=w2 at hv0 hf0 g1 g2 g3 g4⊢;clear hb2;go_wp2;refine hK _ _ ?_;clear hK K;go_wp2
    go_roundg (gk-1)
    case measure=>have:=Hgk.out;omega
    case rel=>have:=Hgk.out;exact⟨j+1,by omega,by go_num,by omega,g1,g2,g3,g4⟩
  ·obtain rfl:j=n:=by omega
   have hrow:=HG.out;rw[aNf (T.valsTo_len t env j),show T.valsTo t env j=T.vals t env from by unfold T.vals;rw[Hlen.out]]at hrow;have ho1:wr.cell? ⟨W.heap.size+1,0,none⟩=some (.slice (some ⟨W.heap.size,0,none⟩) j j):=by rw[cell_of_row _ _ _ _ _ (0,0) HO.out];rfl
   have Hrow:=kH hrow;have Hb:=kH hbw;clear hrow hbw;go_wp2;go_ret;exact⟨W.heap.size,rfl,zBJ _,Hrow.out,Hb.out⟩
theorem aX2(t:List T.Nd)(env:List Int)(n ct ce:Nat)(At Ae:Option Addr)(W:World)(hT:StAt 5 NdR W At n t)(hE:SlAt (IntR .u32) W Ae 4 env)(hv:T.valid true t=0)(he:T.EnvOk t env):
 Calls prog 66 #[.slice At n ct, .slice Ae 4 ce] W fun e w'=>∃g,e= .returned (.tuple #[.slice (some ⟨g,0,none⟩) n n, .int .i64 0])/\W.heap.size<=g/\w'.heap[g]? =some (.cells ((T.vals t env).map (Value.int .u32)).toArray 45 (0,0))/\Below W.heap.size W w':=by
 have HWs:=kH (aDs t n ct At W hT);have hlen:=hT.len;have hn:=(aBk hv).2.1;have HV:=kH (fun W' (hb:Below W.heap.size W W')=>aUs t env n ct ce At Ae W' (hT.below aAh hb) (hE.below (aAd _) hb) (T.aNk hv (aBq hT) he) (by omega));obtain⟨v1,v2,v3,v4,v5⟩:=aBk hv;have Hok:=kH (T.aFc v3 (aBq hT));have HE:=kH hE;have Hv:=kH hv;have He:=kH he;have Hi:=kH (aBq hT);have HM:=kH (fun z (h0:1<=z) (h1:z<=32) W'=>aL4 z W');have Hsh:=kH v3;have hle:=hT.le;clear hT hE hv he v1 v2 v3 v4 v5 hlen hn
 go_enter func66,ntmps66
 go_wp2_with fail
 refine HWs.out.mono ?_;rintro e w1 ⟨hb1,h |⟨_,g,rfl,hg,hrow⟩⟩
 ·exact absurd Hv.out h.1
 have Hb1:=kH hb1;have Hrow:=kH hrow;clear hb1 hrow;go_wp2
 go_loopg [25] (5) (fun gh i wr=>∃(k:Nat),k<=4/\i= .int .i64 (k:Int)/\gh+k=5/\w1=wr)
 case atStart=>exact⟨0,by omega,rfl,rfl,rfl⟩
 case round=>
  obtain⟨k,hk,rfl,hgk,rfl⟩:=hrel;have Hgk:=kH hgk;clear hgk
  by_cases hlt:k<4
  ·obtain⟨z,hz⟩:=aLa t hlt;have hc:w1.cell? ⟨g,k,none⟩=some (.int .i64 z):=by rw[cell_of_row _ _ _ _ _ (0,0) Hrow.out,zAV,zAW,hz];rfl
   by_cases hz0:z=0
   ·subst hz0;clear hz;go_wp2
    go_roundg (gk-1)
    case measure=>have:=Hgk.out;omega
    case rel=>have:=Hgk.out;exact⟨k+1,by omega,by go_num,by omega,rfl⟩
   ·obtain⟨i,y,hy,h33,hyv,hyw⟩:=T.aFr hz hz0;have hs:=T.aAo (Hsh.out i y hy);have hz1:1<=z:=by rw[<-hyw];exact hs.2.2.1
    have hz2:z<=32:=by rw[<-hyw];exact hs.2.2.2.1
    obtain⟨x,be,offe,ue,hx,rfl,hbe,hce,hue⟩:=(HE.out.below (aAd _) Hb1.out).at_ hlt;obtain rfl:ue= .int .u32 x:=hue;have hfit:=He.out.fit k z hz hz0;rw[aAi hx]at hfit;have hm:decide (B.pw z-1<x)=false:=by simp;omega
    have hq:(z == 0)=false:=by simpa using hz0
    have hM:=HM.out z hz1 hz2;rw[B.aBj.2 ⟨hz1,hz2⟩]at hM;have HM2:=kH hM;clear hx hbe hfit hy h33 hyv hyw hs hz hz0 hz1 hz2 hM
    go_wp2_with (go_at_call 112;(with_reducible refine(HM2.out _).mono ?_);rintro e w3 ⟨rfl,rfl⟩)
    go_roundg (gk-1)
    case measure=>have:=Hgk.out;omega
    case rel=>have:=Hgk.out;exact⟨k+1,by omega,by go_num,by omega,rfl⟩
  ·obtain rfl:k=4:=by omega
   go_wp2_with fail
   refine(HV.out _ Hb1.out).mono ?_;rintro e w2 ⟨g2,rfl,hg2,hrow2,hb2⟩;have Hb2:=kH (Hb1.out.trans (hb2.mono Hb1.out.size));have Hg2:=kH (zBK Hb1.out.size hg2);have Hrow2:=kH hrow2;clear hb2 hg2 hrow2;go_wp2;go_ret2;exact⟨g2,rfl,Hg2.out,Hrow2.out,Hb2.out⟩
theorem bC3(t:List T.Nd)(env:List Int)(n ct ce:Nat)(At Ae:Option Addr)(W:World)(hT:StAt 5 NdR W At n t)(hE:SlAt (IntR .u32) W Ae 4 env)(hv:T.valid true t=0)(he:T.EnvOk t env):
 Calls prog 42 #[.slice At n ct, .slice Ae 4 ce] W fun e w'=>e= .returned (.tuple #[.int .u32 ((T.vals t env).getD (n-1) 0), .int .i64 0])/\Below W.heap.size W w':=by
 have HV:=kH (aX2 t env n ct ce At Ae W hT hE hv he);have hlen:=hT.len;have hn:=(aBk hv).1;have hle:=hT.le;have Hl:=kH (show(T.vals t env).length=n from(T.aR3 t env).trans hlen);rw[hlen]at hn;obtain⟨v,hvv⟩:∃v,v=(T.vals t env).getD (n-1) 0:=⟨_,rfl⟩;rw[<-hvv];have Hvv:=kH hvv;clear hT hE hv he hlen hvv
 go_enter func42,ntmps42
 go_wp2_with fail
 refine HV.out.mono ?_;rintro e w1 ⟨g,rfl,hg,hrow,hb1⟩;have Hb1:=kH hb1;have hx:(T.vals t env)[n-1]? =some v:=by rw[Hvv.out,T.aEk (by rw[Hl.out];omega)];exact zAB _
 have hc:w1.cell? ⟨g,n-1,none⟩=some (.int .u32 v):=by rw[cell_of_row _ _ _ _ _ (0,0) hrow,zAV,zAW,hx];rfl
 have hs:((n:Int)-1).toNat=n-1:=by omega
 clear hb1 hrow hx hg;go_wp2;go_ret2;exact⟨rfl,Hb1.out⟩
end
end Go.Proofs.YtchdbhggbdcapaaGreat
