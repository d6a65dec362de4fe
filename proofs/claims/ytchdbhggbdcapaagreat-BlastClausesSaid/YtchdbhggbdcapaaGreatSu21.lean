/- Part. -/
import Derived.Test.YtchdbhggbdcapaaGreatSuLX
import Derived.Test.YtchdbhggbdcapaaGreatSu08
set_option linter.unusedVariables false
set_option linter.unusedSimpArgs false
set_option maxRecDepth 100000
set_option maxHeartbeats 16000000
namespace Go.Proofs.YtchdbhggbdcapaaGreat
open _root_.Go.Proofs.Tryz
section
open Go.RowKit
namespace T
theorem val_0{t:List Nd}{vs env:List Int}{x:Nd}(h:x.op=0):val t vs env x=x.imm:=by unfold val;rw[if_pos h]
theorem aSu{t:List Nd}{vs env:List Int}{x:Nd}(h:x.op=33):val t vs env x=env.getD x.imm.toNat 0:=by unfold val;rw[if_neg (by omega),if_pos h]
theorem aSv{t:List Nd}{vs env:List Int}{x:Nd}(h:x.op=14):val t vs env x=(if cmp x.imm (wd t x 0) (at_ vs x 0) (at_ vs x 1)=true then 1 else 0):=by unfold val;rw[if_neg (by omega),if_neg (by omega),if_pos h]
theorem aZm{t:List Nd}{vs env:List Int}{x:Nd}(h:x.op=15):val t vs env x=at_ vs x (2-at_ vs x 0).toNat:=by unfold val;rw[if_neg (by omega),if_neg (by omega),if_neg (by omega),if_pos h]
theorem aZn{t:List Nd}{vs env:List Int}{x:Nd}(h:16<=x.op)(h':x.op≠33):val t vs env x=ext x.op (wd t x 0) x.w (at_ vs x 0):=by unfold val;rw[if_neg (by omega),if_neg (by omega),if_neg (by omega),if_neg (by omega),if_pos h]
theorem aVt{t:List Nd}{vs env:List Int}{x:Nd}(h0:x.op≠0)(h:x.op<14):val t vs env x=B.full x.op x.w (at_ vs x 0) (at_ vs x 1):=by unfold val;rw[if_neg h0,if_neg (by omega),if_neg (by omega),if_neg (by omega),if_neg (by omega)]
end T
theorem aXi(t:List T.Nd)(env:List Int)(n ct ce:Nat)(At Ae:Option Addr)(W:World)(hT:StAt 5 NdR W At n t)(hE:SlAt (IntR .u32) W Ae 4 env)(hS:T.Std t env)(hn:n<=1000000):
 Calls prog 78 #[.slice At n ct, .slice Ae 4 ce] W fun e w'=>∃v,e= .returned v/\OwnAt w' 45 1 v n ((T.vals t env).map (Value.int .u32))/\Below W.heap.size W w'/\(∀g,v.ownBlock=some g->W.heap.size<=g):=by
 have HT:=kH hT;have HE:=kH hE;have HS:=kH hS;have Hlen:=kH hT.len;have hle:=hT.le;clear hT hE hS
 go_enter func78,ntmps78
 go_wp2
 go_loopg [5,6] (n+1) (fun g v i wr=>∃(j:Nat),j<=n/\i= .int .i64 (j:Int)/\g+j=n+1/\OwnAt wr 45 1 v j ((T.valsTo t env j).map (Value.int .u32))/\Below W.heap.size W wr/\(∀g,v.ownBlock=some g->W.heap.size<=g))
 case atStart=>exact⟨0,zBL _,rfl,rfl,OwnAt.nil_ _ _ _,Below.refl _ _,fun g hg=>by simp[Value.ownBlock]at hg⟩
 case round=>
  obtain⟨j,hj,rfl,hgk,hown,hbw,hob⟩:=hrel;have Hgk:=kH hgk;clear hgk;have Hown:=kH hown;clear hown;have Hob:=kH hob;clear hob
  by_cases hlt:j<n
  ·obtain⟨x,b,off,A,c,hx,rfl,hb,h0,h1,h2,h3,h4,hs,i0,i1⟩:=aBf (HT.out.below aAh hbw) hlt;have Hx:=kH hx;have Hval:=kH (show T.valsTo t env (j+1)=T.valsTo t env j ++ [T.val t (T.valsTo t env j) env x]from by rw[T.valsTo,aAi hx]);have Hnod:=kH (show T.Nod t env (T.valsTo t env j) x from HS.out.nod (T.aFs HS.out j (by rw[Hlen.out];omega)) (by rw[T.valsTo_len];exact hx));obtain⟨vv,hvv⟩:∃vv,vv=T.val t (T.valsTo t env j) env x:=⟨_,rfl⟩;rw[<-hvv]at Hval;have Hvv:=kH hvv;have Hs:=kH hs;have Hb:=kH hbw;obtain⟨W1,hW1⟩:∃W1,W1=wr.alloc (.cells #[.int .i64 x.op, .int .i64 x.w, .int .i64 x.fl, .slice A x.args.length c, .int .u32 x.imm] 56):=⟨_,rfl⟩;have hB1:Below wr.heap.size wr W1:=by rw[hW1];exact al0
   have hr1:W1.heap[wr.heap.size]? =some (.cells #[.int .i64 x.op, .int .i64 x.w, .int .i64 x.fl, .slice A x.args.length c, .int .u32 x.imm] 56 (0,0)):=by rw[hW1];exact heap_alloc_new wr _
   have HB1:=kH hB1;have Hs1:=kH (show W1.heap.size=wr.heap.size+1 from by rw[hW1];simp);have HX:=kH (show∀Y:World,Below W1.heap.size W1 Y->Y.cell? ⟨wr.heap.size,0,none⟩=some (.int .i64 x.op)/\Y.cell? ⟨wr.heap.size,1,none⟩=some (.int .i64 x.w)/\Y.cell? ⟨wr.heap.size,3,none⟩=some (.slice A x.args.length c)/\Y.cell? ⟨wr.heap.size,4,none⟩=some (.int .u32 x.imm)from fun Y hY=>by
    have h1:=aBt (kH hY) hr1;refine⟨?_,?_,?_,?_⟩
    all_goals rw[cell_of_row _ _ _ _ _ (0,0) h1];rfl)
   obtain⟨x0,x1,x3,x4⟩:=HX.out W1 (Below.refl _ _);have Hown1:=kH (Hown.out.below HB1.out (fun g hg=>Hown.out.lt g hg));have Hb1:=kH (show Below W.heap.size W W1 from Hb.out.trans (HB1.out.mono Hb.out.size));have HF:=kH (show∀(u:Int) (v':Value) (w3:World),vv=u->OwnAt w3 45 1 v' (j+1) ((T.valsTo t env j).map (Value.int .u32)++ [.int .u32 u])->OwnAt w3 45 1 v' (j+1) ((T.valsTo t env (j+1)).map (Value.int .u32))from fun u v' w3 hu h=>by
    subst hu;rw[Hval.out,zBS];exact h)
   obtain⟨op,w,fl,args,imm⟩:=x
   dsimp only at h0 h1 h2 h3 h4 x0 x1 x3 x4 i0 i1 hW1
   clear hx hvv hs hbw hB1 hr1;have hcase:op=0\/op=33\/op=14\/op=15\/(16<=op/\op≠33)\/(op≠0/\op<14):=by omega
   rcases hcase with rfl | rfl | rfl | rfl | ho | ho
   ·have Hv:=kH (show vv=imm from Hvv.out.trans (T.val_0 rfl));subst hW1
    go_wp2_with (at_builtin;refine wpList_append_one' rfl (.tmp 139) (.tmp 141) 42 rfl 45 (.int .u32 0) 4 underlying42 aC1 rfl _ j _ rfl Hown1.out (.int .u32 imm) rfl 45 (wr.heap.size+1) (World.size_alloc _ _).symm rfl (by omega) (by omega) ?_;intro v' w3 hown' hgr hat)
    have Hown':=kH (HF.out _ _ _ Hv.out hown');obtain⟨hb3,hv3⟩:=aCb Hb1.out Hb1.out.size Hob.out hgr hat;have Hv3:=kH hv3;have Hb3:=kH hb3;clear hown' hgr hat hb3 hv3 x0 x1 x3 x4 h0 h1 h2 h3 h4;go_wp2
    go_roundg (gk-1)
    case measure=>have:=Hgk.out;omega
    case rel=>have:=Hgk.out;exact⟨j+1,by omega,by go_num,by omega,Hown'.out,Hb3.out,Hv3.out⟩
   ·have Hi:=kH (show imm<4 from by have:=Hnod.out.imm;unfold T.immOk at this;simpa using this);obtain⟨v,rfl⟩:∃v:Nat,imm=v:=⟨imm.toNat,by omega⟩;have hv4:v<4:=by have:=Hi.out;omega
    obtain⟨y,be,offe,ue,hy,rfl,hbe,hce,hue⟩:=(HE.out.below (aAd _) Hb1.out).at_ hv4;have hue':ue= .int .u32 y:=hue;subst hue';have Hv:=kH (show vv=y from by rw[Hvv.out,T.aSu rfl];exact aAi hy);clear hy hue hbe;subst hW1
    go_wp2_with (at_builtin;refine wpList_append_one' rfl (.tmp 139) (.tmp 141) 42 rfl 45 (.int .u32 0) 4 underlying42 aC1 rfl _ j _ rfl Hown1.out (.int .u32 y) rfl 45 (wr.heap.size+1) (World.size_alloc _ _).symm rfl (by omega) (by omega) ?_;intro v' w3 hown' hgr hat)
    have Hown':=kH (HF.out _ _ _ Hv.out hown');obtain⟨hb3,hv3⟩:=aCb Hb1.out Hb1.out.size Hob.out hgr hat;have Hv3:=kH hv3;have Hb3:=kH hb3;clear hown' hgr hat hb3 hv3 x0 x1 x3 x4 h0 h1 h2 h3 h4;go_wp2
    go_roundg (gk-1)
    case measure=>have:=Hgk.out;omega
    case rel=>have:=Hgk.out;exact⟨j+1,by omega,by go_num,by omega,Hown'.out,Hb3.out,Hv3.out⟩
   ·obtain⟨hl2,m0,m9,ew⟩:=Hnod.out.cmp rfl;have hzw0:=Hnod.out.wd 0 (by dsimp only at hl2⊢;omega);have ha0:=Hnod.out.at_ 0 (by dsimp only at hl2⊢;omega);have ha1:=Hnod.out.at_ 1 (by dsimp only at hl2⊢;omega);rw[ew]at ha1;obtain⟨Av,cv,hv⟩:=Hown.out.form;subst hv;have hlo:=Hnod.out.lo 0 (by dsimp only at hl2⊢;omega);have hlo1:=Hnod.out.lo 1 (by dsimp only at hl2⊢;omega);rw[T.valsTo_len]at hlo hlo1
    dsimp only at hl2 hlo hlo1 m0 m9 ha0 ha1
    obtain⟨y,ba,offa,ua,hy,rfl,hba,hca,hua⟩:=(Hs.out.below (aAd _) HB1.out).at_ (k:=0) (show 0<args.length by omega);rw[zBI]at hca;have hua':ua= .int .i64 y:=hua;subst hua';obtain⟨y1,ba1,offa1,ua1,hy1,hA1,_,hca1,hua1⟩:=(Hs.out.below (aAd _) HB1.out).at_ (k:=1) (show 1<args.length by omega);cases hA1;have hua1':ua1= .int .i64 y1:=hua1;subst hua1';rw[aAi hy]at hlo;rw[aAi hy1]at hlo1;obtain⟨q,rfl⟩:∃q:Nat,y=q:=⟨y.toNat,by omega⟩;obtain⟨r,rfl⟩:∃r:Nat,y1=r:=⟨y1.toNat,by omega⟩;have hqj:q<j:=by omega
    have hrj:r<j:=by omega
    obtain⟨zz,bz,offz,A2,c2,hz,hAz,hbz,_,hw2,_⟩:=aBf (HT.out.below aAh Hb1.out) (j:=q) (by omega);cases hAz;obtain⟨y2,bv,offv,uv,hy2,rfl,hbv,hcv,huv⟩:=Hown1.out.slInts.at_ hqj;have huv':uv= .int .u32 y2:=huv;subst huv';obtain⟨y3,bv1,offv1,uv1,hy3,hV1,_,hcv1,huv1⟩:=Hown1.out.slInts.at_ hrj;cases hV1;have huv1':uv1= .int .u32 y3:=huv1;subst huv1';have e2:T.at_ (T.valsTo t env j) ⟨14,w,fl,args,imm⟩ 0=y2:=by unfold T.at_;dsimp only;rw[aAi hy,zBA,aAi hy2]
    have e3:T.at_ (T.valsTo t env j) ⟨14,w,fl,args,imm⟩ 1=y3:=by unfold T.at_;dsimp only;rw[aAi hy1,zBA,aAi hy3]
    have e1:T.wd t ⟨14,w,fl,args,imm⟩ 0=zz.w:=by unfold T.wd;dsimp only;rw[aAi hy,zBA,aAi hz]
    have hv9:=Hvv.out.trans (T.aSv rfl);rw[e1,e2,e3]at hv9;rw[e1]at ha0 ha1 hzw0;rw[e2]at ha0;rw[e3]at ha1
    dsimp only at hv9
    obtain⟨zw,hzw⟩:∃zw,zw=zz.w:=⟨_,rfl⟩;rw[<-hzw]at ha0 ha1 hzw0 hv9 hw2;have hQ:=fun W':World=>aR4 imm zw y2 y3 W' m0 m9 hzw0.1 hzw0.2 ha0.1 ha0.2 ha1.1 ha1.2
    generalize T.cmp imm zw y2 y3=cc at hv9 hQ;have HQ:=kH (fun nn=>show Calls prog 124 #[.int .i64 imm, .int .i64 zw, .int .u32 y2, .int .u32 y3] (W1.drewN nn) (fun e w''=>e= .returned (.tuple #[.bool cc, .int .i64 0])/\∃m,w''=W1.drewN m)from Calls.quiet_of_same ((hQ _).mono fun e w' ⟨h1,h2⟩=>⟨h1,h2.symm⟩));have hle3:=(Hs.out).le;clear hQ hy hy1 hy2 hy3 hz hua hua1 huv huv1 e1 e2 e3 hba hbv hbz ew ha0 ha1 hzw hzw0 m0 m9
    dsimp only at hle3
    rw[hl2]at h3 x3 hW1 hle3;clear hl2 HX Hs;cases cc
    ·have Hv:=kH (show vv=0 from by rw[hv9];simp);clear hv9;rw[hW1]at x0 x1 x3 x4;go_wp2;rw[<-hW1]at x0 x1 x3 x4⊢;clear hW1 h0 h1 h2 h3 h4
     go_quiet ((first |(go_at_call 124;with_reducible exact HQ.out _) | fail))
     clear HQ x0 x1 x3 x4 hca hca1 hcv hcv1 hw2;generalize hW2:W1.drewN _=W2;have hd2:Dr W1 W2:=⟨_,hW2.symm⟩;have Hown2:=kH (show OwnAt W2 45 1 (.slice (some ⟨bv,offv,none⟩) j cv) j _ from by rw[<-hW2];exact Hown1.out.drewN _);have Hb2:=kH (Hb1.out.dr hd2);clear hd2 hW2
     go_wp2_with (at_builtin;refine wpList_append_one' rfl (.tmp 139) (.tmp 141) 42 rfl 45 (.int .u32 0) 4 underlying42 aC1 rfl _ j _ rfl Hown2.out (.int .u32 0) rfl 45 W2.heap.size rfl rfl (by omega) (by omega) ?_;intro v' w3 hown' hgr hat)
     have Hown':=kH (HF.out _ _ _ Hv.out hown');obtain⟨hb3,hv3⟩:=aCb Hb2.out Hb2.out.size Hob.out hgr hat;have Hv3:=kH hv3;have Hb3:=kH hb3;clear hown' hgr hat hb3 hv3;go_wp2
     go_roundg (gk-1)
     case measure=>have:=Hgk.out;omega
     case rel=>have:=Hgk.out;exact⟨j+1,by omega,by go_num,by omega,Hown'.out,Hb3.out,Hv3.out⟩
    ·have Hv:=kH (show vv=1 from by rw[hv9];simp);clear hv9;rw[hW1]at x0 x1 x3 x4;go_wp2;rw[<-hW1]at x0 x1 x3 x4⊢;clear hW1 h0 h1 h2 h3 h4
     go_quiet ((first |(go_at_call 124;with_reducible exact HQ.out _) | fail))
     clear HQ x0 x1 x3 x4 hca hca1 hcv hcv1 hw2;generalize hW2:W1.drewN _=W2;have hd2:Dr W1 W2:=⟨_,hW2.symm⟩;have Hown2:=kH (show OwnAt W2 45 1 (.slice (some ⟨bv,offv,none⟩) j cv) j _ from by rw[<-hW2];exact Hown1.out.drewN _);have Hb2:=kH (Hb1.out.dr hd2);clear hd2 hW2
     go_wp2_with (at_builtin;refine wpList_append_one' rfl (.tmp 139) (.tmp 141) 42 rfl 45 (.int .u32 0) 4 underlying42 aC1 rfl _ j _ rfl Hown2.out (.int .u32 1) rfl 45 W2.heap.size rfl rfl (by omega) (by omega) ?_;intro v' w3 hown' hgr hat)
     have Hown':=kH (HF.out _ _ _ Hv.out hown');obtain⟨hb3,hv3⟩:=aCb Hb2.out Hb2.out.size Hob.out hgr hat;have Hv3:=kH hv3;have Hb3:=kH hb3;clear hown' hgr hat hb3 hv3;go_wp2
     go_roundg (gk-1)
     case measure=>have:=Hgk.out;omega
     case rel=>have:=Hgk.out;exact⟨j+1,by omega,by go_num,by omega,Hown'.out,Hb3.out,Hv3.out⟩
   ·obtain⟨hl3,ew1,ew2,ha⟩:=Hnod.out.ite rfl;obtain⟨Av,cv,hv⟩:=Hown.out.form;subst hv;have hlo:=Hnod.out.lo 0 (by dsimp only at hl3⊢;omega);have hlo1:=Hnod.out.lo 1 (by dsimp only at hl3⊢;omega);have hlo2:=Hnod.out.lo 2 (by dsimp only at hl3⊢;omega);rw[T.valsTo_len]at hlo hlo1 hlo2
    dsimp only at hl3 hlo hlo1 hlo2 ha
    obtain⟨y,ba,offa,ua,hy,rfl,hba,hca,hua⟩:=(Hs.out.below (aAd _) HB1.out).at_ (k:=0) (show 0<args.length by omega);rw[zBI]at hca;have hua':ua= .int .i64 y:=hua;subst hua';obtain⟨y1,ba1,offa1,ua1,hy1,hA1,_,hca1,hua1⟩:=(Hs.out.below (aAd _) HB1.out).at_ (k:=1) (show 1<args.length by omega);cases hA1;have hua1':ua1= .int .i64 y1:=hua1;subst hua1';obtain⟨y2,ba2,offa2,ua2,hy2,hA2,_,hca2,hua2⟩:=(Hs.out.below (aAd _) HB1.out).at_ (k:=2) (show 2<args.length by omega);cases hA2;have hua2':ua2= .int .i64 y2:=hua2;subst hua2';rw[aAi hy]at hlo;rw[aAi hy1]at hlo1;rw[aAi hy2]at hlo2;obtain⟨q,rfl⟩:∃q:Nat,y=q:=⟨y.toNat,by omega⟩;obtain⟨r,rfl⟩:∃r:Nat,y1=r:=⟨y1.toNat,by omega⟩;obtain⟨s,rfl⟩:∃s:Nat,y2=s:=⟨y2.toNat,by omega⟩;have hqj:q<j:=by omega
    have hrj:r<j:=by omega
    have hsj:s<j:=by omega
    obtain⟨z0,bv,offv,uv,hz0,rfl,hbv,hcv,huv⟩:=Hown1.out.slInts.at_ hqj;have huv':uv= .int .u32 z0:=huv;subst huv';obtain⟨z1,bv1,offv1,uv1,hz1,hV1,_,hcv1,huv1⟩:=Hown1.out.slInts.at_ hrj;cases hV1;have huv1':uv1= .int .u32 z1:=huv1;subst huv1';obtain⟨z2,bv2,offv2,uv2,hz2,hV2,_,hcv2,huv2⟩:=Hown1.out.slInts.at_ hsj;cases hV2;have huv2':uv2= .int .u32 z2:=huv2;subst huv2';have e0:T.at_ (T.valsTo t env j) ⟨15,w,fl,args,imm⟩ 0=z0:=by unfold T.at_;dsimp only;rw[aAi hy,zBA,aAi hz0]
    have e1:T.at_ (T.valsTo t env j) ⟨15,w,fl,args,imm⟩ 1=z1:=by unfold T.at_;dsimp only;rw[aAi hy1,zBA,aAi hz1]
    have e2:T.at_ (T.valsTo t env j) ⟨15,w,fl,args,imm⟩ 2=z2:=by unfold T.at_;dsimp only;rw[aAi hy2,zBA,aAi hz2]
    have hv9:=Hvv.out.trans (T.aZm rfl);rw[e0]at ha hv9;have hle3:=(Hs.out).le;have hv8:(z0=0/\vv=z2)\/(z0=1/\vv=z1):=by
     rcases ha with h | h
     ·left;refine⟨h,?_⟩;rw[hv9,h];exact e2
     ·right;refine⟨h,?_⟩;rw[hv9,h];exact e1
    clear hv9 ha hy hy1 hy2 hz0 hz1 hz2 hua hua1 hua2 huv huv1 huv2 e0 e1 e2 hba hbv ew1 ew2
    dsimp only at hle3
    rw[hl3]at h3 x3 hW1 hle3;clear hl3 HX Hs;rcases hv8 with⟨rfl,hv7⟩ |⟨rfl,hv7⟩
    all_goals
     have Hv:=kH hv7;clear hv7;rw[hW1]at x0 x1 x3 x4;go_wp2;rw[<-hW1]at x0 x1 x3 x4⊢;clear hW1 h0 h1 h2 h3 h4
     go_quiet (fail)
     clear x0 x1 x3 x4 hca hca1 hca2 hcv hcv1 hcv2;generalize hW2:W1.drewN _=W2;have hd2:Dr W1 W2:=⟨_,hW2.symm⟩;have Hown2:=kH (show OwnAt W2 45 1 (.slice (some ⟨bv,offv,none⟩) j cv) j _ from by rw[<-hW2];exact Hown1.out.drewN _);have Hb2:=kH (Hb1.out.dr hd2);clear hd2 hW2
     go_wp2_with (at_builtin;refine wpList_append_one' rfl (.tmp 139) (.tmp 141) 42 rfl 45 (.int .u32 0) 4 underlying42 aC1 rfl _ j _ rfl Hown2.out (.int .u32 _) rfl 45 W2.heap.size rfl rfl (by omega) (by omega) ?_;intro v' w3 hown' hgr hat)
     have Hown':=kH (HF.out _ _ _ Hv.out hown');obtain⟨hb3,hv3⟩:=aCb Hb2.out Hb2.out.size Hob.out hgr hat;have Hv3:=kH hv3;have Hb3:=kH hb3;clear hown' hgr hat hb3 hv3;go_wp2
     go_roundg (gk-1)
     case measure=>have:=Hgk.out;omega
     case rel=>have:=Hgk.out;exact⟨j+1,by omega,by go_num,by omega,Hown'.out,Hb3.out,Hv3.out⟩
   ·obtain⟨hl1,hok⟩:=Hnod.out.ext ho.1 ho.2;have h3k:op=16\/op=17\/op=18:=by
     rcases hok.kk with h | h | h
     ·exact .inl h.1
     ·exact .inr (.inl h.1)
     ·exact .inr (.inr h.1)
    obtain⟨Av,cv,hv⟩:=Hown.out.form;subst hv;have hlo:=Hnod.out.lo 0 (by dsimp only at hl1⊢;omega);rw[T.valsTo_len]at hlo
    dsimp only at hl1 hlo
    obtain⟨y,ba,offa,ua,hy,rfl,hba,hca,hua⟩:=(Hs.out.below (aAd _) HB1.out).at_ (k:=0) (show 0<args.length by omega);rw[zBI]at hca;have hua':ua= .int .i64 y:=hua;subst hua';rw[aAi hy]at hlo;obtain⟨q,rfl⟩:∃q:Nat,y=q:=⟨y.toNat,by omega⟩;have hqj:q<j:=by omega
    obtain⟨zz,bz,offz,A2,c2,hz,hAz,hbz,_,hw2,_⟩:=aBf (HT.out.below aAh Hb1.out) (j:=q) (by omega);cases hAz;obtain⟨y2,bv,offv,uv,hy2,rfl,hbv,hcv,huv⟩:=Hown1.out.slInts.at_ hqj;have huv':uv= .int .u32 y2:=huv;subst huv';have e1:T.wd t ⟨op,w,fl,args,imm⟩ 0=zz.w:=by unfold T.wd;dsimp only;rw[aAi hy,zBA,aAi hz]
    have e2:T.at_ (T.valsTo t env j) ⟨op,w,fl,args,imm⟩ 0=y2:=by unfold T.at_;dsimp only;rw[aAi hy,zBA,aAi hy2]
    have hv9:=Hvv.out.trans (T.aZn ho.1 ho.2);rw[e1,e2]at hok hv9
    dsimp only at hok hv9
    obtain⟨zw,hzw⟩:∃zw,zw=zz.w:=⟨_,rfl⟩;rw[<-hzw]at hok hv9 hw2;have HQ:=kH (fun nn=>show Calls prog 125 #[.int .i64 op, .int .i64 zw, .int .i64 w, .int .u32 y2] (W1.drewN nn) (fun e w''=>e= .returned (.tuple #[.int .u32 vv, .int .i64 0])/\∃m,w''=W1.drewN m)from Calls.quiet_of_same ((aTr op zw w y2 _ hok).mono fun e w' ⟨h1,h2⟩=>⟨by rw[hv9];exact h1,h2.symm⟩));have hle3:=(Hs.out).le;clear hok hv9 hy hz hy2 hua huv hzw e1 e2 hbz hba hbv ho
    dsimp only at hle3
    rw[hl1]at h3 x3 hW1 hle3;clear hl1 HX Hs;rcases h3k with rfl | rfl | rfl
    all_goals
     rw[hW1]at x0 x1 x3 x4;go_wp2;rw[<-hW1]at x0 x1 x3 x4⊢;clear hW1 h0 h1 h2 h3 h4
     go_quiet ((first |(go_at_call 125;with_reducible exact HQ.out _) | fail))
     clear HQ x0 x1 x3 x4 hca hw2 hcv;generalize hW2:W1.drewN _=W2;have hd2:Dr W1 W2:=⟨_,hW2.symm⟩;have Hown2:=kH (show OwnAt W2 45 1 (.slice (some ⟨bv,offv,none⟩) j cv) j _ from by rw[<-hW2];exact Hown1.out.drewN _);have Hb2:=kH (Hb1.out.dr hd2);clear hd2 hW2
     go_wp2_with (at_builtin;refine wpList_append_one' rfl (.tmp 139) (.tmp 141) 42 rfl 45 (.int .u32 0) 4 underlying42 aC1 rfl _ j _ rfl Hown2.out (.int .u32 vv) rfl 45 W2.heap.size rfl rfl (by omega) (by omega) ?_;intro v' w3 hown' hgr hat)
     have Hown':=kH (HF.out _ _ _ rfl hown');obtain⟨hb3,hv3⟩:=aCb Hb2.out Hb2.out.size Hob.out hgr hat;have Hv3:=kH hv3;have Hb3:=kH hb3;clear hown' hgr hat hb3 hv3;go_wp2
     go_roundg (gk-1)
     case measure=>have:=Hgk.out;omega
     case rel=>have:=Hgk.out;exact⟨j+1,by omega,by go_num,by omega,Hown'.out,Hb3.out,Hv3.out⟩
   ·obtain⟨hl2,o1,o13,ew0,ew1⟩:=Hnod.out.bin ho.1 ho.2;have ha0:=Hnod.out.at_ 0 (by dsimp only at hl2⊢;omega);have ha1:=Hnod.out.at_ 1 (by dsimp only at hl2⊢;omega);rw[ew0]at ha0;rw[ew1]at ha1;obtain⟨Av,cv,hv⟩:=Hown.out.form;subst hv;have hlo:=Hnod.out.lo 0 (by dsimp only at hl2⊢;omega);have hlo1:=Hnod.out.lo 1 (by dsimp only at hl2⊢;omega);have hw0:=Hnod.out.w0;have hw1:=Hnod.out.w1;rw[T.valsTo_len]at hlo hlo1
    dsimp only at hl2 hlo hlo1 o1 o13 ha0 ha1 hw0 hw1
    obtain⟨y,ba,offa,ua,hy,rfl,hba,hca,hua⟩:=(Hs.out.below (aAd _) HB1.out).at_ (k:=0) (show 0<args.length by omega);rw[zBI]at hca;have hua':ua= .int .i64 y:=hua;subst hua';obtain⟨y1,ba1,offa1,ua1,hy1,hA1,_,hca1,hua1⟩:=(Hs.out.below (aAd _) HB1.out).at_ (k:=1) (show 1<args.length by omega);cases hA1;have hua1':ua1= .int .i64 y1:=hua1;subst hua1';rw[aAi hy]at hlo;rw[aAi hy1]at hlo1;obtain⟨q,rfl⟩:∃q:Nat,y=q:=⟨y.toNat,by omega⟩;obtain⟨r,rfl⟩:∃r:Nat,y1=r:=⟨y1.toNat,by omega⟩;have hqj:q<j:=by omega
    have hrj:r<j:=by omega
    obtain⟨y2,bv,offv,uv,hy2,rfl,hbv,hcv,huv⟩:=Hown1.out.slInts.at_ hqj;have huv':uv= .int .u32 y2:=huv;subst huv';obtain⟨y3,bv1,offv1,uv1,hy3,hV1,_,hcv1,huv1⟩:=Hown1.out.slInts.at_ hrj;cases hV1;have huv1':uv1= .int .u32 y3:=huv1;subst huv1';have e2:T.at_ (T.valsTo t env j) ⟨op,w,fl,args,imm⟩ 0=y2:=by unfold T.at_;dsimp only;rw[aAi hy,zBA,aAi hy2]
    have e3:T.at_ (T.valsTo t env j) ⟨op,w,fl,args,imm⟩ 1=y3:=by unfold T.at_;dsimp only;rw[aAi hy1,zBA,aAi hy3]
    have hv9:=Hvv.out.trans (T.aVt ho.1 ho.2);rw[e2,e3]at hv9;rw[e2]at ha0;rw[e3]at ha1
    dsimp only at hv9
    have hpl:=B.pw_le hw1;have htot:B.total op w y2 y3=(vv,0):=by
     unfold B.total B.okOp B.isW;rw[B.aBj.2 ⟨hw0,hw1⟩,if_pos (by simp[o1,o13,ha0.2,ha1.2]),hv9]
    have HQ:=kH (fun nn=>show Calls prog 126 #[.int .i64 op, .int .i64 w, .int .u32 y2, .int .u32 y3] (W1.drewN nn) (fun e w''=>e= .returned (.tuple #[.int .u32 vv, .int .i64 0])/\∃m,w''=W1.drewN m)from(aWk op w y2 y3 _ ha0.1 (by omega) ha1.1 (by omega)).mono fun e w' ⟨h1,h2⟩=>⟨by rw[htot]at h1;exact h1,Dr.trans ⟨nn,rfl⟩ h2⟩);have hle3:=(Hs.out).le;have q0:(op == 0)=false:=by simp;omega
    have q33:(op == 33)=false:=by simp;omega
    have q14:(op == 14)=false:=by simp;omega
    have q15:(op == 15)=false:=by simp;omega
    have q16:decide (16<=op)=false:=by simp;omega
    clear htot hpl hv9 hy hy1 hy2 hy3 hua hua1 huv huv1 e2 e3 hba hbv ho o1 o13 ew0 ew1 ha0 ha1 hw0 hw1
    dsimp only at hle3
    rw[hl2]at h3 x3 hW1 hle3;clear hl2 HX Hs;rw[hW1]at x0 x1 x3 x4;go_wp2;rw[<-hW1]at x0 x1 x3 x4⊢;clear hW1 h0 h1 h2 h3 h4
    go_quiet ((first |(go_at_call 126;with_reducible exact HQ.out _) | fail))
    clear HQ x0 x1 x3 x4 hca hca1 hcv hcv1;generalize hW2:W1.drewN _=W2;have hd2:Dr W1 W2:=⟨_,hW2.symm⟩;have Hown2:=kH (show OwnAt W2 45 1 (.slice (some ⟨bv,offv,none⟩) j cv) j _ from by rw[<-hW2];exact Hown1.out.drewN _);have Hb2:=kH (Hb1.out.dr hd2);clear hd2 hW2
    go_wp2_with (at_builtin;refine wpList_append_one' rfl (.tmp 139) (.tmp 141) 42 rfl 45 (.int .u32 0) 4 underlying42 aC1 rfl _ j _ rfl Hown2.out (.int .u32 vv) rfl 45 W2.heap.size rfl rfl (by omega) (by omega) ?_;intro v' w3 hown' hgr hat)
    have Hown':=kH (HF.out _ _ _ rfl hown');obtain⟨hb3,hv3⟩:=aCb Hb2.out Hb2.out.size Hob.out hgr hat;have Hv3:=kH hv3;have Hb3:=kH hb3;clear hown' hgr hat hb3 hv3;go_wp2
    go_roundg (gk-1)
    case measure=>have:=Hgk.out;omega
    case rel=>have:=Hgk.out;exact⟨j+1,by omega,by go_num,by omega,Hown'.out,Hb3.out,Hv3.out⟩
  ·obtain rfl:j=n:=by omega
   have hown:=Hown.out;rw[show T.valsTo t env j=T.vals t env from by unfold T.vals;rw[Hlen.out]]at hown;have Hown':=kH hown;have Hbw:=kH hbw;clear hown hbw Hown;go_wp2;go_ret;exact⟨_,rfl,Hown'.out,Hbw.out,Hob.out⟩
theorem aN0(ws args:List Int)(i Bv Bx n m c cv:Nat)(Av A:Option Addr)(W:World)(hV:SlAt (IntR .u32) W Av n ws)(hA:SlAt (IntR .i64) W A m args)(hBv:W.cell? ⟨Bv,0,none⟩=some (.slice Av n cv))(hBx:W.cell? ⟨Bx,3,none⟩=some (.slice A m c))
 (hi:i<m) (ha:0<=args.getD i 0/\args.getD i 0<n):
 Calls prog 143 #[.int .i64 (i:Int), .pointer (some ⟨Bv,0,none⟩), .pointer (some ⟨Bx,0,none⟩)] W fun e w'=>e= .returned (.int .u32 (ws.getD (args.getD i 0).toNat 0))/\Dr W w':=by
 obtain⟨y,b,off,u,hy,rfl,hb,hc,rfl⟩:=hA.at_ hi;rw[aAi hy]at ha⊢;obtain⟨j,rfl⟩:∃j:Nat,y=j:=⟨y.toNat,by omega⟩;have hj:j<n:=by omega
 obtain⟨v,b2,off2,u2,hv,rfl,hb2,hc2,rfl⟩:=hV.at_ hj;rw[zBA,aAi hv];have hle:=hA.le;have hle2:=hV.le;clear hy hA hV hv hb ha hb2
 go_enter func143,ntmps143
 go_wp2
 go_quiet (fail)
 go_wp2;go_ret;exact⟨rfl,_,rfl⟩
theorem aPw{W:World}{g n:Nat}{xs:List Int}{T:TypeId}(h:W.heap[g]? =some (.cells (fillC xs n).toArray T (0,0)))(hl:xs.length<=n)(hn:n<=1000000):SlAt (IntR .u32) W (some ⟨g,0,none⟩) n (xs ++ List.replicate (n-xs.length) 0):=by
 refine⟨by simp;omega,by omega,fun k x hx=>⟨g,0, .int .u32 x,rfl,(gA h).1,?_,rfl⟩⟩;rw[cell_of_row _ _ _ _ _ (0,0) h,zBH];have:fillC xs n=(xs ++ List.replicate (n-xs.length) 0).map (Value.int .u32):=by simp[fillC]
 rw[this,zAV,zAW,hx];rfl
theorem aPx{xs:List Int}{n:Nat}(h:xs.length<n):fillC (xs ++ [0]) n=fillC xs n:=by
 unfold fillC;rw[zBS,zBT]
 congr 1
 obtain⟨k,hk⟩:∃k,n-xs.length=k+1:=⟨n-xs.length-1,by omega⟩;have e:n- (xs ++ [0]).length=k:=by simp;omega
 rw[hk,e,List.replicate_succ];rfl
end
end Go.Proofs.YtchdbhggbdcapaaGreat
