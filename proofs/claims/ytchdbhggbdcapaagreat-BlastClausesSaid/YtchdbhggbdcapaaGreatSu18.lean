/- Part. -/
import Derived.Test.YtchdbhggbdcapaaGreatSuLX
import Derived.Test.YtchdbhggbdcapaaGreatSu17
set_option linter.unusedVariables false
set_option linter.unusedSimpArgs false
set_option maxRecDepth 100000
set_option maxHeartbeats 16000000
namespace Go.Proofs.YtchdbhggbdcapaaGreat
open _root_.Go.Proofs.Tryz
section
open Go.RowKit Go.MapKept Go.Maps Go.WideMaps
theorem WPost.of{w:World}{B0 Bb Mb:Nat}{tg:TgF}{l:List Int}{b:C.Bd}{A:Option Addr}{n cap:Nat}{tg':TgF}{w':World}(hl:l.length=n)(h:WSt w B0 Bb Mb tg (l,b) (.slice A n cap) w' tg'):WPost w B0 Bb Mb tg (l,b) (.returned (.slice A n cap)) w':=by
 subst hl;exact⟨A,cap,tg',rfl,h⟩
theorem WSt.wd'{W:World}{B0 Bb Mb:Nat}{tg tg2:TgF}{r:List Int×C.Bd}{A:Option Addr}{n c:Nat}{w2:World}(h:WSt W B0 Bb Mb tg r (.slice A n c) w2 tg2)(hl:r.1.length=n):WdAt w2 tg2 A c r.1:=by
 subst hl;exact⟨h.nw.1,fun g hg=>(h.nw.2 g hg).2⟩
theorem WdNew.wd{W w2:World}{tg2:TgF}{A:Option Addr}{n c:Nat}{l:List Int}(h:WdNew W w2 tg2 (.slice A n c) l)(hl:l.length=n):WdAt w2 tg2 A c l:=by
 subst hl;exact⟨h.1,fun g hg=>(h.2 g hg).2⟩
structure ArI(w:World)(B0 Bb Mb Cb:Nat)(tg:TgF)(vc:Value)(b:C.Bd)(A1 A2:Option Addr)(c1 c2:Nat)(x y:List Int)(n:Nat):Prop where
 b:BAt w B0 Bb Mb tg vc b
 c:CbAt w tg Cb Bb
 wx:WdAt w tg A1 c1 x
 wy:WdAt w tg A2 c2 y
 xb:C.Wb x
 yb:C.Wb y
 xl:x.length=n
 yl:y.length=n
 n1:1<=n
 nm:n<=64
section
variable {w w' : World} {B0 Bb Mb Cb : Nat} {tg tg' : TgF} {vc : Value} {b : C.Bd} {A1 A2 : Option Addr} {c1 c2 n : Nat} {x y : List Int}
theorem ArI.dr(h:ArI w B0 Bb Mb Cb tg vc b A1 A2 c1 c2 x y n):ArI w.drew B0 Bb Mb Cb tg vc b A1 A2 c1 c2 x y n:=by
 have u:=h.b.up ((Below.refl _ w).drew);exact⟨h.b.dr ((Dr.refl _).drew),h.c.up u,h.wx.up u,h.wy.up u,h.xb,h.yb,h.xl,h.yl,h.n1,h.nm⟩
theorem ArI.ud(h:ArI w B0 Bb Mb Cb tg vc b A1 A2 c1 c2 x y n):Up B0 tg w tg w.drew:=h.b.up ((Below.refl _ w).drew)
theorem aT1(h:ArI w B0 Bb Mb Cb tg vc b A1 A2 c1 c2 x y n):
 Calls prog 119 #[.pointer (some ⟨Cb,0,none⟩), .int .i64 1, .slice A1 n c1, .slice A2 n c2] w (WPost w B0 Bb Mb tg (C.arith 1 x y b)):=by
 have H:=kH h;have h1:=h.n1;have hm:=h.nm;obtain⟨g1,o1,rfl,e1⟩:=h.wx.cell (i:=x.length-1) (by have:=h.xl;omega);obtain⟨l,hl⟩:∃l,C.lastL x=l:=⟨_,rfl⟩;rw[show x.getD (x.length-1) 0=l from hl,h.xl]at e1;have il:C.Ib l:=by rw[<-hl];exact wb_at h.xb (by have:=h.xl;omega)
 have Hlx:=kH (And.intro hl il);obtain⟨m1,hm1⟩:∃m1,n-1=m1:=⟨_,rfl⟩;have hmi:((n:Nat):Int)-1=((m1:Nat):Int):=by omega
 rw[hm1]at e1;have hlt:m1<n:=by omega
 have hwi:IntKind.i64.wrap ((m1:Nat):Int)=((m1:Nat):Int):=IntWalk.i64_in _ (by omega);have hlt2:((m1:Nat):Int) <((n:Nat):Int):=by omega
 have k0:=h.c.2.2;have Hm1:=kH hm1;have HS:=kH (aF5 h.b C.ibm1 h.wx h.wy h.xb h.yb (by rw[h.xl,h.yl]) (by rw[h.xl];omega));rw[h.xl,h.yl]at HS;have hsl:(C.sum x y (-1) b).1.1.length=n:=by unfold C.sum;rw[C.aCg];exact h.xl
 obtain⟨s,hs⟩:∃s,C.sum x y (-1) b=s:=⟨_,rfl⟩;rw[hs]at HS hsl;have He:=kH (show C.arith 1 x y b=(s.1.1,s.2)from by rw[C.aU7,hs]);have Hsl:=kH hsl;clear hs hsl;clear h hl il hm1
 go_enter func119,ntmps119
 go_wp2_with fail
 refine HS.out.mono ?_;rintro e w2 ⟨A2',c2',tg2,rfl,k⟩;rw[Hsl.out]at k⊢;have Hk:=kH k;clear k;go_wp2;go_ret;rw[He.out];exact WPost.of Hsl.out Hk.out
theorem aT2(h:ArI w B0 Bb Mb Cb tg vc b A1 A2 c1 c2 x y n):
 Calls prog 119 #[.pointer (some ⟨Cb,0,none⟩), .int .i64 3, .slice A1 n c1, .slice A2 n c2] w (WPost w B0 Bb Mb tg (C.arith 3 x y b)):=by
 have H:=kH h;have h1:=h.n1;have hm:=h.nm;obtain⟨g1,o1,rfl,e1⟩:=h.wx.cell (i:=x.length-1) (by have:=h.xl;omega);obtain⟨l,hl⟩:∃l,C.lastL x=l:=⟨_,rfl⟩;rw[show x.getD (x.length-1) 0=l from hl,h.xl]at e1;have il:C.Ib l:=by rw[<-hl];exact wb_at h.xb (by have:=h.xl;omega)
 have Hlx:=kH (And.intro hl il);obtain⟨m1,hm1⟩:∃m1,n-1=m1:=⟨_,rfl⟩;have hmi:((n:Nat):Int)-1=((m1:Nat):Int):=by omega
 rw[hm1]at e1;have hlt:m1<n:=by omega
 have hwi:IntKind.i64.wrap ((m1:Nat):Int)=((m1:Nat):Int):=IntWalk.i64_in _ (by omega);have hlt2:((m1:Nat):Int) <((n:Nat):Int):=by omega
 have k0:=h.c.2.2;have Hm1:=kH hm1;have HS:=kH (aW9 h.b h.wx h.wy h.xb h.yb (by rw[h.xl,h.yl]) (by rw[h.xl];exact h1) (by rw[h.xl];omega));rw[h.xl,h.yl]at HS;have He:=kH (show C.arith 3 x y b=C.times x y b from C.aU9 _ _ _);clear h hl il hm1
 go_enter func119,ntmps119
 go_wp2_with fail
 refine HS.out.mono ?_;rintro e w2 ⟨A2',c2',tg2,rfl,k⟩;have Hk:=kH k;clear k;go_wp2;go_ret;rw[He.out];exact⟨A2',c2',tg2,rfl,Hk.out⟩
theorem aSq(h:ArI w B0 Bb Mb Cb tg vc b A1 A2 c1 c2 x y n):
 Calls prog 119 #[.pointer (some ⟨Cb,0,none⟩), .int .i64 11, .slice A1 n c1, .slice A2 n c2] w (WPost w B0 Bb Mb tg (C.arith 11 x y b)):=by
 have H:=kH h;have h1:=h.n1;have hm:=h.nm;obtain⟨g1,o1,rfl,e1⟩:=h.wx.cell (i:=x.length-1) (by have:=h.xl;omega);obtain⟨l,hl⟩:∃l,C.lastL x=l:=⟨_,rfl⟩;rw[show x.getD (x.length-1) 0=l from hl,h.xl]at e1;have il:C.Ib l:=by rw[<-hl];exact wb_at h.xb (by have:=h.xl;omega)
 have Hlx:=kH (And.intro hl il);obtain⟨m1,hm1⟩:∃m1,n-1=m1:=⟨_,rfl⟩;have hmi:((n:Nat):Int)-1=((m1:Nat):Int):=by omega
 rw[hm1]at e1;have hlt:m1<n:=by omega
 have hwi:IntKind.i64.wrap ((m1:Nat):Int)=((m1:Nat):Int):=IntWalk.i64_in _ (by omega);have hlt2:((m1:Nat):Int) <((n:Nat):Int):=by omega
 have k0:=h.c.2.2;have Hm1:=kH hm1;have HS:=kH (aI8 (a:= -1) h.b h.wx h.wy h.xb h.yb C.ibm1 (by rw[h.xl,h.yl]) (by rw[h.xl];exact h1) (by rw[h.xl];omega));rw[h.xl,h.yl]at HS;have He:=kH (show C.arith 11 x y b=C.shift x y (-1) b from C.aRm _ _ _);clear h hl il hm1
 go_enter func119,ntmps119
 go_wp2_with fail
 refine HS.out.mono ?_;rintro e w2 ⟨A2',c2',tg2,rfl,k⟩;have Hk:=kH k;clear k;go_wp2;go_ret;rw[He.out];exact⟨A2',c2',tg2,rfl,Hk.out⟩
theorem aT3(h:ArI w B0 Bb Mb Cb tg vc b A1 A2 c1 c2 x y n):
 Calls prog 119 #[.pointer (some ⟨Cb,0,none⟩), .int .i64 4, .slice A1 n c1, .slice A2 n c2] w (WPost w B0 Bb Mb tg (C.arith 4 x y b)):=by
 have H:=kH h;have h1:=h.n1;have hm:=h.nm;obtain⟨g1,o1,rfl,e1⟩:=h.wx.cell (i:=x.length-1) (by have:=h.xl;omega);obtain⟨l,hl⟩:∃l,C.lastL x=l:=⟨_,rfl⟩;rw[show x.getD (x.length-1) 0=l from hl,h.xl]at e1;have il:C.Ib l:=by rw[<-hl];exact wb_at h.xb (by have:=h.xl;omega)
 have Hlx:=kH (And.intro hl il);obtain⟨m1,hm1⟩:∃m1,n-1=m1:=⟨_,rfl⟩;have hmi:((n:Nat):Int)-1=((m1:Nat):Int):=by omega
 rw[hm1]at e1;have hlt:m1<n:=by omega
 have hwi:IntKind.i64.wrap ((m1:Nat):Int)=((m1:Nat):Int):=IntWalk.i64_in _ (by omega);have hlt2:((m1:Nat):Int) <((n:Nat):Int):=by omega
 have k0:=h.c.2.2;have Hm1:=kH hm1;have HS:=kH (aGc h.b h.wx h.wy h.xb h.yb (by rw[h.xl,h.yl]) (by rw[h.xl];exact h1) (by rw[h.xl];omega));rw[h.xl,h.yl]at HS;have hd:=aD9 h.xb h.yb (by rw[h.xl,h.yl]) h.b.bo;rw[h.xl]at hd;obtain⟨d,hdd⟩:∃d,C.aA8 x y b=d:=⟨_,rfl⟩;rw[hdd]at HS hd;have He:=kH (show C.arith 4 x y b=(d.q,d.b)from by rw[C.aVa,hdd]);have Hd:=kH hd;clear hd hdd;clear h hl il hm1
 go_enter func119,ntmps119
 go_wp2_with fail
 refine HS.out.mono ?_;rintro e w2 ⟨A3,c3,A4,c4,tg2,rfl,k,kr⟩;have Hk:=kH (And.intro k kr);clear k kr;go_wp2;go_ret;rw[He.out];exact WPost.of Hd.out.ql Hk.out.1
theorem aT4(h:ArI w B0 Bb Mb Cb tg vc b A1 A2 c1 c2 x y n):
 Calls prog 119 #[.pointer (some ⟨Cb,0,none⟩), .int .i64 5, .slice A1 n c1, .slice A2 n c2] w (WPost w B0 Bb Mb tg (C.arith 5 x y b)):=by
 have H:=kH h;have h1:=h.n1;have hm:=h.nm;obtain⟨g1,o1,rfl,e1⟩:=h.wx.cell (i:=x.length-1) (by have:=h.xl;omega);obtain⟨l,hl⟩:∃l,C.lastL x=l:=⟨_,rfl⟩;rw[show x.getD (x.length-1) 0=l from hl,h.xl]at e1;have il:C.Ib l:=by rw[<-hl];exact wb_at h.xb (by have:=h.xl;omega)
 have Hlx:=kH (And.intro hl il);obtain⟨m1,hm1⟩:∃m1,n-1=m1:=⟨_,rfl⟩;have hmi:((n:Nat):Int)-1=((m1:Nat):Int):=by omega
 rw[hm1]at e1;have hlt:m1<n:=by omega
 have hwi:IntKind.i64.wrap ((m1:Nat):Int)=((m1:Nat):Int):=IntWalk.i64_in _ (by omega);have hlt2:((m1:Nat):Int) <((n:Nat):Int):=by omega
 have k0:=h.c.2.2;have Hm1:=kH hm1;have HS:=kH (aGc h.b h.wx h.wy h.xb h.yb (by rw[h.xl,h.yl]) (by rw[h.xl];exact h1) (by rw[h.xl];omega));rw[h.xl,h.yl]at HS;have hd:=aD9 h.xb h.yb (by rw[h.xl,h.yl]) h.b.bo;rw[h.xl]at hd;obtain⟨d,hdd⟩:∃d,C.aA8 x y b=d:=⟨_,rfl⟩;rw[hdd]at HS hd;have He:=kH (show C.arith 5 x y b=(d.r,d.b)from by rw[C.aVb,hdd]);have Hd:=kH hd;clear hd hdd;clear h hl il hm1
 go_enter func119,ntmps119
 go_wp2_with fail
 refine HS.out.mono ?_;rintro e w2 ⟨A3,c3,A4,c4,tg2,rfl,k,kr⟩;have Hk:=kH (And.intro k kr);clear k kr;go_wp2;go_ret;rw[He.out];exact WPost.of Hd.out.rl ⟨Hk.out.1.bu,Hk.out.1.up,Hk.out.2⟩
theorem aT5(h:ArI w B0 Bb Mb Cb tg vc b A1 A2 c1 c2 x y n):
 Calls prog 119 #[.pointer (some ⟨Cb,0,none⟩), .int .i64 2, .slice A1 n c1, .slice A2 n c2] w (WPost w B0 Bb Mb tg (C.arith 2 x y b)):=by
 have H:=kH h;have h1:=h.n1;have hm:=h.nm;obtain⟨g1,o1,rfl,e1⟩:=h.wx.cell (i:=x.length-1) (by have:=h.xl;omega);obtain⟨l,hl⟩:∃l,C.lastL x=l:=⟨_,rfl⟩;rw[show x.getD (x.length-1) 0=l from hl,h.xl]at e1;have il:C.Ib l:=by rw[<-hl];exact wb_at h.xb (by have:=h.xl;omega)
 have Hlx:=kH (And.intro hl il);obtain⟨m1,hm1⟩:∃m1,n-1=m1:=⟨_,rfl⟩;have hmi:((n:Nat):Int)-1=((m1:Nat):Int):=by omega
 rw[hm1]at e1;have hlt:m1<n:=by omega
 have hwi:IntKind.i64.wrap ((m1:Nat):Int)=((m1:Nat):Int):=IntWalk.i64_in _ (by omega);have hlt2:((m1:Nat):Int) <((n:Nat):Int):=by omega
 have k0:=h.c.2.2;have Hm1:=kH hm1;have HD:=kH h.dr;have HN:=kH (aI2 HD.out.wy.1 h.yb (by rw[h.yl];omega));rw[h.yl]at HN;have hnl:(C.notw y).length=n:=by rw[C.aBy];exact h.yl
 have hsl:(C.sum x (C.notw y) 1 b).1.1.length=n:=by unfold C.sum;rw[C.aCg];exact h.xl
 obtain⟨s,hs⟩:∃s,C.sum x (C.notw y) 1 b=s:=⟨_,rfl⟩;have Hs:=kH hs;rw[hs]at hsl;have He:=kH (show C.arith 2 x y b=(s.1.1,s.2)from by rw[C.aU8,hs]);have Hsl:=kH (And.intro hsl hnl);clear hs hsl hnl;clear h hl il hm1
 go_enter func119,ntmps119
 go_upto_region 7 with(fail)
 refine wp_region_held_drew (S:=fun Y:World=>Y.cell? ⟨Cb,0,none⟩=some (.pointer (some ⟨Bb,0,none⟩))/\True) (by kernel_rfl) (⟨k0,trivial⟩) (fun hHh=>?_);refine tK 0 ?_;refine tK 1 ?_;refine tK 2 ?_;refine tK 3 ?_;refine tK 4 ?_;refine tK 5 ?_;refine rd 6 (fun KK hKK=>?_);clear hHh;go_simp;refine HN.out.mono ?_;rintro e w2 ⟨A3,c3,rfl,k1,k2,k3⟩;rw[Hsl.out.2]at k2 k3⊢;have hU:=HD.out.b.up k1;have hY:WdAt w2 tg A3 c3 (C.notw y):=⟨by rw[Hsl.out.2];exact k2,fun g hg=>HD.out.b.none_ (k3 g (by rw[Hsl.out.2]at hg;exact hg))⟩;have hP:=aF5 (HD.out.b.below k1) C.ib1 (HD.out.wx.up hU) hY H.out.xb (aEw H.out.yb) (by rw[H.out.xl,Hsl.out.2]) (by rw[H.out.xl];omega);rw[Hs.out,H.out.xl,Hsl.out.2]at hP;have HP:=kH hP;have HU:=kH hU;have HS2:=kH (show(fun Y:World=>Y.cell? ⟨Cb,0,none⟩=some (.pointer (some ⟨Bb,0,none⟩))/\True) w2 from⟨(HD.out.c.up hU).2.2,trivial⟩);clear k1 k2 k3 hU hY hP HN;refine hKK.out _ _ (HS2.out) (fun hHh=>?_);clear hKK KK
 try simp only[Act.put,yL]
 refine rd 7 (fun KK hKK=>?_);clear hHh;go_simp;refine HP.out.mono ?_;rintro e w3 ⟨A4,c4,tg3,rfl,k⟩;rw[Hsl.out.1]at k⊢;have Hk:=kH k;have HS3:=kH (show(fun Y:World=>Y.cell? ⟨Cb,0,none⟩=some (.pointer (some ⟨Bb,0,none⟩))/\True) w3 from⟨((HD.out.c.up HU.out).up k.up).2.2,trivial⟩);clear k HP;refine hKK.out _ _ (HS3.out) (fun hHh=>?_);clear hKK KK
 try simp only[Act.put,yL]
 refine tK 8 ?_;refine tK 9 ?_;refine tK 10 ?_;refine tK 11 ?_;refine tK 12 ?_;refine wpAnyH_done (by kernel_rfl) ?_ _;go_wp2;go_ret;rw[He.out];exact WPost.of Hsl.out.1 (Hk.out.from_ (H.out.ud.trans HU.out))
theorem aSr(h:ArI w B0 Bb Mb Cb tg vc b A1 A2 c1 c2 x y n):
 Calls prog 119 #[.pointer (some ⟨Cb,0,none⟩), .int .i64 12, .slice A1 n c1, .slice A2 n c2] w (WPost w B0 Bb Mb tg (C.arith 12 x y b)):=by
 have H:=kH h;have h1:=h.n1;have hm:=h.nm;obtain⟨g1,o1,rfl,e1⟩:=h.wx.cell (i:=x.length-1) (by have:=h.xl;omega);obtain⟨l,hl⟩:∃l,C.lastL x=l:=⟨_,rfl⟩;rw[show x.getD (x.length-1) 0=l from hl,h.xl]at e1;have il:C.Ib l:=by rw[<-hl];exact wb_at h.xb (by have:=h.xl;omega)
 have Hlx:=kH (And.intro hl il);obtain⟨m1,hm1⟩:∃m1,n-1=m1:=⟨_,rfl⟩;have hmi:((n:Nat):Int)-1=((m1:Nat):Int):=by omega
 rw[hm1]at e1;have hlt:m1<n:=by omega
 have hwi:IntKind.i64.wrap ((m1:Nat):Int)=((m1:Nat):Int):=IntWalk.i64_in _ (by omega);have hlt2:((m1:Nat):Int) <((n:Nat):Int):=by omega
 have k0:=h.c.2.2;have Hm1:=kH hm1;have HD:=kH h.dr;have HN:=kH (aHy HD.out.wx (by rw[h.xl];exact h1) (by rw[h.xl];omega));rw[h.xl]at HN;have hrl:x.reverse.length=n:=by rw[List.length_reverse];exact h.xl
 have hrb:C.Wb x.reverse:=fun l hl=>h.xb l (List.mem_reverse.1 hl)
 obtain⟨s,hs⟩:∃s,C.shift x.reverse y (-1) b=s:=⟨_,rfl⟩;obtain⟨sh1,sh2,sh3⟩:=aEo (a:=(-1)) hrb h.yb (by first | exact il | exact C.ibm1) h.b.bo y.length (zBJ _);rw[show C.aA4 x.reverse y (-1) b y.length=s from hs,hrl]at sh3;have Hs:=kH hs;have He:=kH (show C.arith 12 x y b=(s.1.reverse,s.2)from by rw[C.aRn];unfold C.aB4;rw[hs]);have Hsl:=kH (And.intro sh3 (And.intro hrl hrb));clear hs sh1 sh2 sh3 hrl hrb;clear h hl il hm1
 go_enter func119,ntmps119
 go_upto_region 26 with(fail)
 refine wp_region_held_drew (S:=fun Y:World=>Y.cell? ⟨Cb,0,none⟩=some (.pointer (some ⟨Bb,0,none⟩))/\True) (by kernel_rfl) (⟨k0,trivial⟩) (fun hHh=>?_);refine tK 0 ?_;refine tK 1 ?_;refine tK 2 ?_;refine tK 3 ?_;refine tK 4 ?_;refine tK 6 ?_;refine rd 5 (fun KK hKK=>?_);clear hHh;go_simp;refine HN.out.mono ?_;rintro e w2 ⟨A3,c3,rfl,k1,k2,k3⟩;rw[Hsl.out.2.1]at k2 k3⊢;have hU:=HD.out.b.up k1;have hX:WdAt w2 tg A3 c3 x.reverse:=⟨by rw[Hsl.out.2.1];exact k2,fun g hg=>HD.out.b.none_ (k3 g (by rw[Hsl.out.2.1]at hg;exact hg))⟩;have hP:=aI8 (a:=(-1)) (HD.out.b.below k1) hX (HD.out.wy.up hU) Hsl.out.2.2 H.out.yb C.ibm1 (by rw[Hsl.out.2.1,H.out.yl]) (by rw[Hsl.out.2.1];exact H.out.n1) (by rw[Hsl.out.2.1];exact H.out.nm);rw[Hs.out,Hsl.out.2.1,H.out.yl]at hP;have HP:=kH hP;have HU:=kH hU;have HS2:=kH (show(fun Y:World=>Y.cell? ⟨Cb,0,none⟩=some (.pointer (some ⟨Bb,0,none⟩))/\True) w2 from⟨(HD.out.c.up hU).2.2,trivial⟩);clear k1 k2 k3 hU hX hP HN;refine hKK.out _ _ (HS2.out) (fun hHh=>?_);clear hKK KK
 try simp only[Act.put,yL]
 refine rd 7 (fun KK hKK=>?_);clear hHh;go_simp;refine HP.out.mono ?_;rintro e w3 ⟨A4,c4,tg3,rfl,k⟩;rw[Hsl.out.1]at k⊢;have Hk:=kH k;have hB:=aHy (k.wd' Hsl.out.1) (by rw[Hsl.out.1];exact H.out.n1) (by rw[Hsl.out.1];omega);rw[Hsl.out.1]at hB;have HB:=kH hB;have HS3:=kH (show(fun Y:World=>Y.cell? ⟨Cb,0,none⟩=some (.pointer (some ⟨Bb,0,none⟩))/\True) w3 from⟨((HD.out.c.up HU.out).up k.up).2.2,trivial⟩);clear k hB HP;refine hKK.out _ _ (HS3.out) (fun hHh=>?_);clear hKK KK
 try simp only[Act.put,yL]
 refine rd 8 (fun KK hKK=>?_);clear hHh;go_simp;refine HB.out.mono ?_;rintro e w4 ⟨A5,c5,rfl,k1,k2,k3⟩;have hrl2:s.1.reverse.length=n:=by rw[List.length_reverse];exact Hsl.out.1
 rw[hrl2]at k2 k3⊢;obtain⟨v3,b3⟩:=Hk.out.bu;have hU3:=b3.up k1;have HF:=kH (show WSt w B0 Bb Mb tg (s.1.reverse,s.2) (.slice A5 n c5) w4 tg3 from⟨⟨v3,b3.below k1⟩,H.out.ud.trans (HU.out.trans (Hk.out.up.trans hU3)),by rw[hrl2];exact k2,fun g hg=>⟨zBK (zBK H.out.ud.un.size (zBK HU.out.un.size Hk.out.up.un.size)) (k3 g hg),b3.none_ (k3 g hg)⟩⟩);have Hr2:=kH hrl2;have HS4:=kH (show(fun Y:World=>Y.cell? ⟨Cb,0,none⟩=some (.pointer (some ⟨Bb,0,none⟩))/\True) w4 from⟨(((HD.out.c.up HU.out).up Hk.out.up).up hU3).2.2,trivial⟩);clear k1 k2 k3 hrl2 b3 hU3 HB;refine hKK.out _ _ (HS4.out) (fun hHh=>?_);clear hKK KK
 try simp only[Act.put,yL]
 refine tK 9 ?_;refine wpAnyH_done (by kernel_rfl) ?_ _;go_wp2;go_ret;rw[He.out];exact WPost.of Hr2.out HF.out
theorem aSs(h:ArI w B0 Bb Mb Cb tg vc b A1 A2 c1 c2 x y n):
 Calls prog 119 #[.pointer (some ⟨Cb,0,none⟩), .int .i64 13, .slice A1 n c1, .slice A2 n c2] w (WPost w B0 Bb Mb tg (C.arith 13 x y b)):=by
 have H:=kH h;have h1:=h.n1;have hm:=h.nm;obtain⟨g1,o1,rfl,e1⟩:=h.wx.cell (i:=x.length-1) (by have:=h.xl;omega);obtain⟨l,hl⟩:∃l,C.lastL x=l:=⟨_,rfl⟩;rw[show x.getD (x.length-1) 0=l from hl,h.xl]at e1;have il:C.Ib l:=by rw[<-hl];exact wb_at h.xb (by have:=h.xl;omega)
 have Hlx:=kH (And.intro hl il);obtain⟨m1,hm1⟩:∃m1,n-1=m1:=⟨_,rfl⟩;have hmi:((n:Nat):Int)-1=((m1:Nat):Int):=by omega
 rw[hm1]at e1;have hlt:m1<n:=by omega
 have hwi:IntKind.i64.wrap ((m1:Nat):Int)=((m1:Nat):Int):=IntWalk.i64_in _ (by omega);have hlt2:((m1:Nat):Int) <((n:Nat):Int):=by omega
 have k0:=h.c.2.2;have Hm1:=kH hm1;have HD:=kH h.dr;have HN:=kH (aHy HD.out.wx (by rw[h.xl];exact h1) (by rw[h.xl];omega));rw[h.xl]at HN;have hrl:x.reverse.length=n:=by rw[List.length_reverse];exact h.xl
 have hrb:C.Wb x.reverse:=fun l hl=>h.xb l (List.mem_reverse.1 hl)
 obtain⟨s,hs⟩:∃s,C.shift x.reverse y l b=s:=⟨_,rfl⟩;obtain⟨sh1,sh2,sh3⟩:=aEo (a:=l) hrb h.yb (by first | exact il | exact C.ibm1) h.b.bo y.length (zBJ _);rw[show C.aA4 x.reverse y l b y.length=s from hs,hrl]at sh3;have Hs:=kH hs;have He:=kH (show C.arith 13 x y b=(s.1.reverse,s.2)from by rw[C.aRo,hl];unfold C.aB4;rw[hs]);have Hsl:=kH (And.intro sh3 (And.intro hrl hrb));clear hs sh1 sh2 sh3 hrl hrb;clear h hl il hm1
 go_enter func119,ntmps119
 go_upto_region 28 with(fail)
 refine wp_region_held_drew (S:=fun Y:World=>Y.cell? ⟨Cb,0,none⟩=some (.pointer (some ⟨Bb,0,none⟩))/\True) (by kernel_rfl) (⟨k0,trivial⟩) (fun hHh=>?_);refine tK 0 ?_;refine tK 1 ?_;refine tK 2 ?_;refine tK 3 ?_;refine tK 4 ?_;refine tK 6 ?_;refine tK 7 ?_;refine rd 5 (fun KK hKK=>?_);clear hHh;go_simp;refine HN.out.mono ?_;rintro e w2 ⟨A3,c3,rfl,k1,k2,k3⟩;rw[Hsl.out.2.1]at k2 k3⊢;have hU:=HD.out.b.up k1;have hX:WdAt w2 tg A3 c3 x.reverse:=⟨by rw[Hsl.out.2.1];exact k2,fun g hg=>HD.out.b.none_ (k3 g (by rw[Hsl.out.2.1]at hg;exact hg))⟩;have hP:=aI8 (a:=l) (HD.out.b.below k1) hX (HD.out.wy.up hU) Hsl.out.2.2 H.out.yb Hlx.out.2 (by rw[Hsl.out.2.1,H.out.yl]) (by rw[Hsl.out.2.1];exact H.out.n1) (by rw[Hsl.out.2.1];exact H.out.nm);rw[Hs.out,Hsl.out.2.1,H.out.yl]at hP;have HP:=kH hP;have HU:=kH hU;have HS2:=kH (show(fun Y:World=>Y.cell? ⟨Cb,0,none⟩=some (.pointer (some ⟨Bb,0,none⟩))/\True) w2 from⟨(HD.out.c.up hU).2.2,trivial⟩);clear k1 k2 k3 hU hX hP HN;refine hKK.out _ _ (HS2.out) (fun hHh=>?_);clear hKK KK
 try simp only[Act.put,yL]
 refine rd 8 (fun KK hKK=>?_);clear hHh;go_simp;refine HP.out.mono ?_;rintro e w3 ⟨A4,c4,tg3,rfl,k⟩;rw[Hsl.out.1]at k⊢;have Hk:=kH k;have hB:=aHy (k.wd' Hsl.out.1) (by rw[Hsl.out.1];exact H.out.n1) (by rw[Hsl.out.1];omega);rw[Hsl.out.1]at hB;have HB:=kH hB;have HS3:=kH (show(fun Y:World=>Y.cell? ⟨Cb,0,none⟩=some (.pointer (some ⟨Bb,0,none⟩))/\True) w3 from⟨((HD.out.c.up HU.out).up k.up).2.2,trivial⟩);clear k hB HP;refine hKK.out _ _ (HS3.out) (fun hHh=>?_);clear hKK KK
 try simp only[Act.put,yL]
 refine rd 9 (fun KK hKK=>?_);clear hHh;go_simp;refine HB.out.mono ?_;rintro e w4 ⟨A5,c5,rfl,k1,k2,k3⟩;have hrl2:s.1.reverse.length=n:=by rw[List.length_reverse];exact Hsl.out.1
 rw[hrl2]at k2 k3⊢;obtain⟨v3,b3⟩:=Hk.out.bu;have hU3:=b3.up k1;have HF:=kH (show WSt w B0 Bb Mb tg (s.1.reverse,s.2) (.slice A5 n c5) w4 tg3 from⟨⟨v3,b3.below k1⟩,H.out.ud.trans (HU.out.trans (Hk.out.up.trans hU3)),by rw[hrl2];exact k2,fun g hg=>⟨zBK (zBK H.out.ud.un.size (zBK HU.out.un.size Hk.out.up.un.size)) (k3 g hg),b3.none_ (k3 g hg)⟩⟩);have Hr2:=kH hrl2;have HS4:=kH (show(fun Y:World=>Y.cell? ⟨Cb,0,none⟩=some (.pointer (some ⟨Bb,0,none⟩))/\True) w4 from⟨(((HD.out.c.up HU.out).up Hk.out.up).up hU3).2.2,trivial⟩);clear k1 k2 k3 hrl2 b3 hU3 HB;refine hKK.out _ _ (HS4.out) (fun hHh=>?_);clear hKK KK
 try simp only[Act.put,yL]
 refine tK 10 ?_;refine wpAnyH_done (by kernel_rfl) ?_ _;go_wp2;go_ret;rw[He.out];exact WPost.of Hr2.out HF.out
end
def WdV(w:World)(tg:TgF)(v:Value)(l:List Int):Prop:=∃A c,v= .slice A l.length c/\WdAt w tg A c l
theorem WdV.up{w w':World}{B0:Nat}{tg tg':TgF}{v:Value}{l:List Int}(h:WdV w tg v l)(u:Up B0 tg w tg' w'):WdV w' tg' v l:=by
 obtain⟨A,c,e,h⟩:=h;exact⟨A,c,e,h.up u⟩
theorem WdV.nil_(w:World)(tg:TgF):WdV w tg (.slice none 0 0) []:=⟨none,0,rfl,OwnAt.nil_ _ _ _,fun g hg=>by cases hg⟩
structure CtAt(w:World)(tg:TgF)(Cb Bb Wb n:Nat)(vars words:List (List Int)):Prop where
 row:∃us:List Value,us.length=4/\w.heap[Cb]? =some (.cells (#[.pointer (some ⟨Bb,0,none⟩)]++ us.toArray ++ #[.slice (some ⟨Wb,0,none⟩) n n]) 73 (0,0))/\∀(i:Nat) (l:List Int),vars[i]? =some l->∃v:Value,us[i]? =some v/\WdV w tg v l
 wrow:∃vs:List Value,vs.length=n/\w.heap[Wb]? =some (.cells vs.toArray 69 (0,0))/\∀(i:Nat) (l:List Int),words[i]? =some l->∃v:Value,vs[i]? =some v/\WdV w tg v l
 tC:tg Cb=none
 tW:tg Wb=none
section
variable {w w' : World} {B0 Bb Mb Cb Wb n : Nat} {tg tg' : TgF} {vc : Value} {b : C.Bd} {vars words : List (List Int)} {A : Option Addr} {c : Nat} {l : List Int}
theorem CtAt.ltC(h:CtAt w tg Cb Bb Wb n vars words):Cb<w.heap.size:=by
 obtain⟨us,_,h,_⟩:=h.row;exact(gA h).1
theorem CtAt.ltW(h:CtAt w tg Cb Bb Wb n vars words):Wb<w.heap.size:=by
 obtain⟨us,_,h,_⟩:=h.wrow;exact(gA h).1
theorem CtAt.up(h:CtAt w tg Cb Bb Wb n vars words)(u:Up B0 tg w tg' w'):CtAt w' tg' Cb Bb Wb n vars words:=by
 have hC:=u.un.no Cb h.ltC h.tC;have hW:=u.un.no Wb h.ltW h.tW;obtain⟨us,l1,r1,k1⟩:=h.row;obtain⟨vs,l2,r2,k2⟩:=h.wrow;refine⟨⟨us,l1,hC.2.trans r1,fun i l hi=>?_⟩,⟨vs,l2,hW.2.trans r2,fun i l hi=>?_⟩,hC.1,hW.1⟩
 ·obtain⟨v,e,q⟩:=k1 i l hi;exact⟨v,e,q.up u⟩
 ·obtain⟨v,e,q⟩:=k2 i l hi;exact⟨v,e,q.up u⟩
theorem CtAt.cb(h:CtAt w tg Cb Bb Wb n vars words):CbAt w tg Cb Bb:=by
 obtain⟨us,l1,r1,_⟩:=h.row;refine⟨h.ltC,h.tC,?_⟩;rw[cell_of_row _ _ _ _ _ (0,0) r1];simp
theorem CtAt.c5(h:CtAt w tg Cb Bb Wb n vars words):w.cell? ⟨Cb,5,none⟩=some (.slice (some ⟨Wb,0,none⟩) n n):=by
 obtain⟨us,l1,r1,_⟩:=h.row;rw[cell_of_row _ _ _ _ _ (0,0) r1];simp[l1]
theorem CtAt.frzW(h:CtAt w tg Cb Bb Wb n vars words)(i:Nat):w.frozen? ⟨Wb,i,none⟩=false:=by
 obtain⟨us,l1,r1,_⟩:=h.wrow;exact aCm r1 i
theorem CtAt.var(h:CtAt w tg Cb Bb Wb n vars words){i:Nat}(hi:vars[i]? =some l):∃A c,w.cell? ⟨Cb,1+i,none⟩=some (.slice A l.length c)/\WdAt w tg A c l:=by
 obtain⟨us,l1,r1,k1⟩:=h.row;obtain⟨v,e,A,c,rfl,q⟩:=k1 i l hi;refine⟨A,c,?_,q⟩;have hil:=(zAA.1 e).1;rw[cell_of_row _ _ _ _ _ (0,0) r1];rw[zAR (by simp;omega),zAS (by simp)];simpa using e
theorem CtAt.word(h:CtAt w tg Cb Bb Wb n vars words){i:Nat}(hi:words[i]? =some l):∃A c,i<n/\w.cell? ⟨Wb,i,none⟩=some (.slice A l.length c)/\WdAt w tg A c l:=by
 obtain⟨us,l1,r1,k1⟩:=h.wrow;obtain⟨v,e,A,c,rfl,q⟩:=k1 i l hi;have hil:=(zAA.1 e).1;refine⟨A,c,by omega,?_,q⟩;rw[cell_of_row _ _ _ _ _ (0,0) r1];simpa using e
theorem WdAt.neW(hw:WdAt w tg A c l){vs:Array Value}{g:Nat}{T:TypeId}(hT:T≠3)(hr:w.heap[g]? =some (.cells vs T (0,0))):(Value.slice A l.length c).ownBlock≠some g:=by
 intro e;rcases hw.1.2 with⟨e1,_⟩ |⟨g',off',cap,cur,e1,hc,_⟩
 ·rw[e1]at e;cases e
 ·rw[e1]at e;have e2:g'=g:=by simpa[Value.ownBlock]using e
  subst e2;rw[hc]at hr;injection hr with hr
  injection hr with _ h2 _
  exact hT h2.symm
theorem WdAt.setc(hw:WdAt w tg A c l){g:Nat}(hne:(Value.slice A l.length c).ownBlock≠some g)(i:Nat)(v:Value):WdAt (w.setCell ⟨g,i,none⟩ v) tg A c l:=⟨hw.1.setCell (p:=⟨g,i,none⟩) hne v,hw.2⟩
theorem CtAt.setW(h:CtAt w tg Cb Bb Wb n vars words)(hl:words.length=n){k:Nat}(hw:WdAt w tg A c l)(hne:Cb≠Wb):CtAt (w.setCell ⟨Wb,k,none⟩ (.slice A l.length c)) tg Cb Bb Wb n vars (words.set k l):=by
 obtain⟨us,l1,r1,k1⟩:=h.row;obtain⟨vs,l2,r2,k2⟩:=h.wrow;have hset:∀{A:Option Addr} {c:Nat} {l:List Int} (v:Value),WdAt w tg A c l->WdAt (w.setCell ⟨Wb,k,none⟩ v) tg A c l:=fun v q=>q.setc (q.neW (by decide) r2) k v
 refine⟨⟨us,l1,(Below.heap_setCell w ⟨Wb,k,none⟩ _ Cb hne).trans r1,fun i m hi=>?_⟩,⟨vs.set k (.slice A l.length c),by simp[l2],?_,fun i m hi=>?_⟩,h.tC,h.tW⟩
 ·obtain⟨v,e,A',c',e',q⟩:=k1 i m hi;exact⟨v,e,A',c',e',hset _ q⟩
 ·rw[heap_setCell_same w Wb k _ _ _ r2];simp
 ·rw[List.getElem?_set]at hi;rw[List.getElem?_set];split at hi
  ·rename_i e;subst e;split at hi
   ·rename_i h2;obtain rfl:=zAH hi;exact⟨_,by rw[if_pos rfl,if_pos (by omega)],A,c,rfl,hset _ hw⟩
   ·cases hi
  ·rename_i e;obtain⟨v,e',A',c',e2,q⟩:=k2 i m hi;exact⟨v,by rw[if_neg e];exact e',A',c',e2,hset _ q⟩
end
section
variable {w w' : World} {B0 Bb Mb Cb : Nat} {tg tg' : TgF} {vc : Value} {b : C.Bd} {A1 A2 : Option Addr} {c1 c2 n : Nat} {x y : List Int}
theorem aT6(h:ArI w B0 Bb Mb Cb tg vc b A1 A2 c1 c2 x y n):
 Calls prog 119 #[.pointer (some ⟨Cb,0,none⟩), .int .i64 6, .slice A1 n c1, .slice A2 n c2] w (WPost w B0 Bb Mb tg (C.arith 6 x y b)):=by
 have H:=kH h;have h1:=h.n1;have hm:=h.nm;obtain⟨g1,o1,rfl,e1⟩:=h.wx.cell (i:=x.length-1) (by have:=h.xl;omega);obtain⟨l,hl⟩:∃l,C.lastL x=l:=⟨_,rfl⟩;rw[show x.getD (x.length-1) 0=l from hl,h.xl]at e1;have il:C.Ib l:=by rw[<-hl];exact wb_at h.xb (by have:=h.xl;omega)
 have Hlx:=kH (And.intro hl il);obtain⟨m1,hm1⟩:∃m1,n-1=m1:=⟨_,rfl⟩;have hmi:((n:Nat):Int)-1=((m1:Nat):Int):=by omega
 rw[hm1]at e1;have hlt:m1<n:=by omega
 have hwi:IntKind.i64.wrap ((m1:Nat):Int)=((m1:Nat):Int):=IntWalk.i64_in _ (by omega);have hlt2:((m1:Nat):Int) <((n:Nat):Int):=by omega
 have k0:=h.c.2.2;have Hm1:=kH hm1;have HD:=kH h.dr;have HM1:=kH (aEn HD.out.b HD.out.wx h.xb (by rw[h.xl];exact h1) (by rw[h.xl];omega));rw[h.xl]at HM1;have m1b:=aDh h.b.bo h.xb (by rw[h.xl];exact h1);rw[h.xl]at m1b;obtain⟨p1,hp1⟩:∃p,C.aA6 x b=p:=⟨_,rfl⟩;rw[hp1]at HM1 m1b;have m2b:=aDh m1b.b h.yb (by rw[h.yl];exact h1);rw[h.yl]at m2b;obtain⟨p2,hp2⟩:∃p,C.aA6 y p1.2=p:=⟨_,rfl⟩;rw[hp2]at m2b;have db:=aD9 m1b.w m2b.w (by rw[m1b.l,m2b.l]) m2b.b;rw[m1b.l]at db;obtain⟨d,hd⟩:∃d,C.aA8 p1.1 p2.1 p2.2=d:=⟨_,rfl⟩;rw[hd]at db;have hmg:C.mags x y b=d:=by unfold C.mags;rw[hp1,hp2,hd]
 obtain⟨ly,hly⟩:∃l,C.lastL y=l:=⟨_,rfl⟩;have ily:C.Ib ly:=by rw[<-hly];exact wb_at h.yb (by have:=h.yl;omega)
 obtain⟨z1,z2⟩:=C.aFt db.b il ily;obtain⟨z,hz⟩:∃z,C.xor l ly d.b=z:=⟨_,rfl⟩;rw[hz]at z1 z2;have mib:=aPt (x:=d.q) z1 db.q;rw[db.ql]at mib;obtain⟨mi,hmi'⟩:∃m,C.minus d.q z.2=m:=⟨_,rfl⟩;rw[hmi']at mib;have hpl:(C.picks z.1 mi.1 d.q mi.2).1.length=n:=by unfold C.picks;rw[C.aCa];exact mib.l
 have He:=kH (show C.arith 6 x y b=C.picks z.1 mi.1 d.q mi.2 from by rw[C.aVc];unfold C.sdiv C.negIf;rw[hmg,hl,hly,hz,hmi']);have Hz:=kH (And.intro hz (And.intro z1 z2));clear z1 z2 hz;have Hp:=kH (And.intro hp2 (And.intro m1b (And.intro m2b (And.intro hd (And.intro db (And.intro hmi' (And.intro mib hpl)))))));obtain⟨g4,o4,rfl,e4⟩:=h.wy.cell (i:=y.length-1) (by have:=h.yl;omega);rw[show y.getD (y.length-1) 0=ly from hly,h.yl,hm1]at e4;have He4:=kH e4;clear hp1 m1b hp2 m2b hd db hmg hly hmi' mib hpl e4;clear h hl il hm1
 go_enter func119,ntmps119
 go_upto_region 18 with(fail)
 refine wp_region_held_drew (S:=fun Y:World=>Y.cell? ⟨Cb,0,none⟩=some (.pointer (some ⟨Bb,0,none⟩))/\True) (by kernel_rfl) (⟨k0,trivial⟩) (fun hHh=>?_);refine tK 0 ?_;refine tK 1 ?_;refine tK 2 ?_;refine tK 3 ?_;refine tK 4 ?_;refine tK 5 ?_;refine tK 6 ?_;refine tK 7 ?_;refine tK 8 ?_;refine tK 10 ?_;refine tK 11 ?_;refine tK 12 ?_;refine tK 13 ?_;refine tK 14 ?_;refine rd 9 (fun KK hKK=>?_);clear hHh;go_simp;refine HM1.out.mono ?_;rintro e w2 ⟨A3,c3,tg3,rfl,k⟩;rw[Hp.out.2.1.l]at k⊢;have Hk2:=kH k;obtain⟨v2,b2⟩:=k.bu;have hP:=aEn b2 (HD.out.wy.up k.up) H.out.yb (by rw[H.out.yl];exact H.out.n1) (by rw[H.out.yl];omega);rw[Hp.out.1,H.out.yl]at hP;have HM2:=kH hP;have HS2:=kH (show(fun Y:World=>Y.cell? ⟨Cb,0,none⟩=some (.pointer (some ⟨Bb,0,none⟩))/\True) w2 from⟨(HD.out.c.up k.up).2.2,trivial⟩);clear k b2 hP HM1;refine hKK.out _ _ (HS2.out) (fun hHh=>?_);clear hKK KK
 try simp only[Act.put,yL]
 refine rd 15 (fun KK hKK=>?_);clear hHh;go_simp;refine HM2.out.mono ?_;rintro e w3 ⟨A4,c4,tg4,rfl,k⟩;rw[Hp.out.2.2.1.l]at k⊢;have Hk3:=kH k;obtain⟨v3,b3⟩:=k.bu;have hP:=aGc b3 ((Hk2.out.wd' Hp.out.2.1.l).up k.up) (k.wd' Hp.out.2.2.1.l) Hp.out.2.1.w Hp.out.2.2.1.w (by rw[Hp.out.2.1.l,Hp.out.2.2.1.l]) (by rw[Hp.out.2.1.l];exact H.out.n1) (by rw[Hp.out.2.1.l];omega);rw[Hp.out.2.2.2.1,Hp.out.2.1.l,Hp.out.2.2.1.l]at hP;have HDv:=kH hP;have HS3:=kH (show(fun Y:World=>Y.cell? ⟨Cb,0,none⟩=some (.pointer (some ⟨Bb,0,none⟩))/\True) w3 from⟨((HD.out.c.up Hk2.out.up).up k.up).2.2,trivial⟩);clear k b3 hP HM2;refine hKK.out _ _ (HS3.out) (fun hHh=>?_);clear hKK KK
 try simp only[Act.put,yL]
 refine rd 16 (fun KK hKK=>?_);clear hHh;go_simp;refine HDv.out.mono ?_;rintro e w4 ⟨A5,c5,A6,c6,tg5,rfl,k,kr⟩;have Hk4:=kH (And.intro k kr);have HU4:=kH (H.out.ud.trans (Hk2.out.up.trans (Hk3.out.up.trans k.up)));have HC4:=kH (((HD.out.c.up Hk2.out.up).up Hk3.out.up).up k.up);have HS4:=kH (show(fun Y:World=>Y.cell? ⟨Cb,0,none⟩=some (.pointer (some ⟨Bb,0,none⟩))/\True) w4 from⟨HC4.out.2.2,trivial⟩);clear k kr HDv;refine hKK.out _ _ (HS4.out) (fun hHh=>?_);clear hKK KK
 try simp only[Act.put,yL]
 refine tK 17 ?_;refine tK 18 ?_;refine tK 19 ?_;refine tK 20 ?_;refine tK 21 ?_;refine wpAnyH_done (by kernel_rfl) ?_ _;have hsz:w.heap.size<=w3.heap.size:=by
  have z1:=H.out.ud.un.size;have z2:=Hk2.out.up.un.size;have z3:=Hk3.out.up.un.size;omega
 obtain⟨v4,b4⟩:=Hk4.out.1.bu;have b4d:=b4.dr ((Dr.refl _).drew);have u4:=b4.up ((Below.refl _ w4).drew);have hX:=kH (aHp b4d Hlx.out.2 ily);rw[Hz.out.1]at hX;have e4':w4.cell? ⟨g4,o4+m1,none⟩=some (.int .i64 ly):=(aBn (HU4.out.un.no g4 (H.out.wy.1.lt g4 rfl) (H.out.wy.2 g4 rfl)).2).trans He4.out;have hC4:=HC4.out.2.2;have HQ:=kH ((Hk4.out.1.wd' Hp.out.2.2.2.2.1.ql).up u4);have Hw4:=kH (And.intro u4 (And.intro (HC4.out.up u4) hsz));have Hy4:=kH (H.out.wy.up (HU4.out.trans u4));have Hgy:=kH (show y.getD m1 0=ly from by have:=He4.out;obtain⟨q1,q2,q3,q4⟩:=H.out.wy.cell (i:=m1) (by rw[H.out.yl];omega);injection q3 with q3;injection q3 with q5 q6;subst q5 q6;rw[q4]at this;injection this with this;injection this);clear b4 b4d u4 k0 e1 hsz
 go_upto_region 19 with(fail)
 refine wp_region_held_drew (S:=fun Y:World=>Y.cell? ⟨Cb,0,none⟩=some (.pointer (some ⟨Bb,0,none⟩))/\Y.cell? ⟨g4,o4+m1,none⟩=some (.int .i64 ly)) (by kernel_rfl) (⟨hC4,e4'⟩) (fun hHh=>?_);refine tK 0 ?_;refine tK 1 ?_;refine tK 2 ?_;refine tK 3 ?_;refine tK 4 ?_;refine tK 5 ?_;refine tK 6 ?_;refine tK 7 ?_;refine tK 8 ?_;refine tK 9 ?_;refine tK 10 ?_;refine tK 11 ?_;refine tK 12 ?_;refine tK 13 ?_;refine tK 14 ?_;refine tK 16 ?_;refine tK 17 ?_;refine tK 18 ?_;refine tK 19 ?_;refine tK 20 ?_;refine tK 22 ?_;refine rd 15 (fun KK hKK=>?_);clear hHh;go_simp;refine hX.out.mono ?_;rintro e w5 ⟨rfl,tg6,v6,b6,u6⟩;have hP:=aI5 b6 (HQ.out.up u6) Hp.out.2.2.2.2.1.q (by rw[Hp.out.2.2.2.2.1.ql];exact H.out.n1) (by rw[Hp.out.2.2.2.2.1.ql];omega);rw[Hp.out.2.2.2.2.2.1,Hp.out.2.2.2.2.1.ql]at hP;have HMi:=kH hP;have HU6:=kH u6;have HS5:=kH (show(fun Y:World=>Y.cell? ⟨Cb,0,none⟩=some (.pointer (some ⟨Bb,0,none⟩))/\Y.cell? ⟨g4,o4+m1,none⟩=some (.int .i64 ly)) w5 from⟨(Hw4.out.2.1.up u6).2.2,by have q:=(Hy4.out.up u6).cell (i:=m1) (by rw[H.out.yl];omega);obtain⟨q1,q2,q3,q4⟩:=q;injection q3 with q3;injection q3 with q5 q6;subst q5 q6;rw[q4,show y.getD m1 0=ly from Hgy.out]⟩);clear b6 u6 hP hX;refine hKK.out _ _ (HS5.out) (fun hHh=>?_);clear hKK KK
 try simp only[Act.put,yL]
 refine rd 21 (fun KK hKK=>?_);clear hHh;go_simp;refine HMi.out.mono ?_;rintro e w6 ⟨A7,c7,tg7,rfl,k⟩;rw[Hp.out.2.2.2.2.2.2.1.l]at k⊢;obtain⟨v7,b7⟩:=k.bu;have hP:=aEm b7 Hz.out.2.2 (k.wd' Hp.out.2.2.2.2.2.2.1.l) ((HQ.out.up HU6.out).up k.up) Hp.out.2.2.2.2.2.2.1.w Hp.out.2.2.2.2.1.q (by rw[Hp.out.2.2.2.2.2.2.1.l,Hp.out.2.2.2.2.1.ql]) (by rw[Hp.out.2.2.2.2.2.2.1.l];omega);rw[Hp.out.2.2.2.2.2.2.1.l,Hp.out.2.2.2.2.1.ql]at hP;have HPk:=kH hP;have HU7:=kH (HU6.out.trans k.up);have HS6:=kH (show(fun Y:World=>Y.cell? ⟨Cb,0,none⟩=some (.pointer (some ⟨Bb,0,none⟩))/\Y.cell? ⟨g4,o4+m1,none⟩=some (.int .i64 ly)) w6 from⟨(Hw4.out.2.1.up HU7.out).2.2,by have q:=(Hy4.out.up HU7.out).cell (i:=m1) (by rw[H.out.yl];omega);obtain⟨q1,q2,q3,q4⟩:=q;injection q3 with q3;injection q3 with q5 q6;subst q5 q6;rw[q4,show y.getD m1 0=ly from Hgy.out]⟩);clear k b7 hP HMi;refine hKK.out _ _ (HS6.out) (fun hHh=>?_);clear hKK KK
 try simp only[Act.put,yL]
 refine rd 23 (fun KK hKK=>?_);clear hHh;go_simp;refine HPk.out.mono ?_;rintro e w7 ⟨A8,c8,tg8,rfl,k⟩;have Hk8:=kH k;have HS7:=kH (show(fun Y:World=>Y.cell? ⟨Cb,0,none⟩=some (.pointer (some ⟨Bb,0,none⟩))/\Y.cell? ⟨g4,o4+m1,none⟩=some (.int .i64 ly)) w7 from⟨(Hw4.out.2.1.up (HU7.out.trans k.up)).2.2,by have q:=(Hy4.out.up (HU7.out.trans k.up)).cell (i:=m1) (by rw[H.out.yl];omega);obtain⟨q1,q2,q3,q4⟩:=q;injection q3 with q3;injection q3 with q5 q6;subst q5 q6;rw[q4,show y.getD m1 0=ly from Hgy.out]⟩);clear k HPk;refine hKK.out _ _ (HS7.out) (fun hHh=>?_);clear hKK KK
 try simp only[Act.put,yL]
 refine tK 24 ?_;refine wpAnyH_done (by kernel_rfl) ?_ _;go_wp2;go_ret;rw[He.out];exact⟨A8,c8,tg8,rfl,Hk8.out.from_ (HU4.out.trans (Hw4.out.1.trans HU7.out))⟩
theorem aT7(h:ArI w B0 Bb Mb Cb tg vc b A1 A2 c1 c2 x y n):
 Calls prog 119 #[.pointer (some ⟨Cb,0,none⟩), .int .i64 7, .slice A1 n c1, .slice A2 n c2] w (WPost w B0 Bb Mb tg (C.arith 7 x y b)):=by
 have H:=kH h;have h1:=h.n1;have hm:=h.nm;obtain⟨g1,o1,rfl,e1⟩:=h.wx.cell (i:=x.length-1) (by have:=h.xl;omega);obtain⟨l,hl⟩:∃l,C.lastL x=l:=⟨_,rfl⟩;rw[show x.getD (x.length-1) 0=l from hl,h.xl]at e1;have il:C.Ib l:=by rw[<-hl];exact wb_at h.xb (by have:=h.xl;omega)
 have Hlx:=kH (And.intro hl il);obtain⟨m1,hm1⟩:∃m1,n-1=m1:=⟨_,rfl⟩;have hmi:((n:Nat):Int)-1=((m1:Nat):Int):=by omega
 rw[hm1]at e1;have hlt:m1<n:=by omega
 have hwi:IntKind.i64.wrap ((m1:Nat):Int)=((m1:Nat):Int):=IntWalk.i64_in _ (by omega);have hlt2:((m1:Nat):Int) <((n:Nat):Int):=by omega
 have k0:=h.c.2.2;have Hm1:=kH hm1;have HD:=kH h.dr;have HM1:=kH (aEn HD.out.b HD.out.wx h.xb (by rw[h.xl];exact h1) (by rw[h.xl];omega));rw[h.xl]at HM1;have m1b:=aDh h.b.bo h.xb (by rw[h.xl];exact h1);rw[h.xl]at m1b;obtain⟨p1,hp1⟩:∃p,C.aA6 x b=p:=⟨_,rfl⟩;rw[hp1]at HM1 m1b;have m2b:=aDh m1b.b h.yb (by rw[h.yl];exact h1);rw[h.yl]at m2b;obtain⟨p2,hp2⟩:∃p,C.aA6 y p1.2=p:=⟨_,rfl⟩;rw[hp2]at m2b;have db:=aD9 m1b.w m2b.w (by rw[m1b.l,m2b.l]) m2b.b;rw[m1b.l]at db;obtain⟨d,hd⟩:∃d,C.aA8 p1.1 p2.1 p2.2=d:=⟨_,rfl⟩;rw[hd]at db;have hmg:C.mags x y b=d:=by unfold C.mags;rw[hp1,hp2,hd]
 obtain⟨ly,hly⟩:∃l,C.lastL y=l:=⟨_,rfl⟩;have ily:C.Ib ly:=by rw[<-hly];exact wb_at h.yb (by have:=h.yl;omega)
 have mib:=aPt (x:=d.r) db.b db.r;rw[db.rl]at mib;obtain⟨mi,hmi'⟩:∃m,C.minus d.r d.b=m:=⟨_,rfl⟩;rw[hmi']at mib;have hpl:(C.picks l mi.1 d.r mi.2).1.length=n:=by unfold C.picks;rw[C.aCa];exact mib.l
 have He:=kH (show C.arith 7 x y b=C.picks l mi.1 d.r mi.2 from by rw[C.aVd];unfold C.srem C.negIf;rw[hmg,hl,hmi']);have Hp:=kH (And.intro hp2 (And.intro m1b (And.intro m2b (And.intro hd (And.intro db (And.intro hmi' (And.intro mib hpl)))))));obtain⟨g4,o4,rfl,e4⟩:=h.wy.cell (i:=y.length-1) (by have:=h.yl;omega);rw[show y.getD (y.length-1) 0=ly from hly,h.yl,hm1]at e4;have He4:=kH e4;clear hp1 m1b hp2 m2b hd db hmg hly hmi' mib hpl e4;clear h hl il hm1
 go_enter func119,ntmps119
 go_upto_region 21 with(fail)
 refine wp_region_held_drew (S:=fun Y:World=>Y.cell? ⟨Cb,0,none⟩=some (.pointer (some ⟨Bb,0,none⟩))/\True) (by kernel_rfl) (⟨k0,trivial⟩) (fun hHh=>?_);refine tK 0 ?_;refine tK 1 ?_;refine tK 2 ?_;refine tK 3 ?_;refine tK 4 ?_;refine tK 5 ?_;refine tK 6 ?_;refine tK 7 ?_;refine tK 8 ?_;refine tK 10 ?_;refine tK 11 ?_;refine tK 12 ?_;refine tK 13 ?_;refine tK 14 ?_;refine rd 9 (fun KK hKK=>?_);clear hHh;go_simp;refine HM1.out.mono ?_;rintro e w2 ⟨A3,c3,tg3,rfl,k⟩;rw[Hp.out.2.1.l]at k⊢;have Hk2:=kH k;obtain⟨v2,b2⟩:=k.bu;have hP:=aEn b2 (HD.out.wy.up k.up) H.out.yb (by rw[H.out.yl];exact H.out.n1) (by rw[H.out.yl];omega);rw[Hp.out.1,H.out.yl]at hP;have HM2:=kH hP;have HS2:=kH (show(fun Y:World=>Y.cell? ⟨Cb,0,none⟩=some (.pointer (some ⟨Bb,0,none⟩))/\True) w2 from⟨(HD.out.c.up k.up).2.2,trivial⟩);clear k b2 hP HM1;refine hKK.out _ _ (HS2.out) (fun hHh=>?_);clear hKK KK
 try simp only[Act.put,yL]
 refine rd 15 (fun KK hKK=>?_);clear hHh;go_simp;refine HM2.out.mono ?_;rintro e w3 ⟨A4,c4,tg4,rfl,k⟩;rw[Hp.out.2.2.1.l]at k⊢;have Hk3:=kH k;obtain⟨v3,b3⟩:=k.bu;have hP:=aGc b3 ((Hk2.out.wd' Hp.out.2.1.l).up k.up) (k.wd' Hp.out.2.2.1.l) Hp.out.2.1.w Hp.out.2.2.1.w (by rw[Hp.out.2.1.l,Hp.out.2.2.1.l]) (by rw[Hp.out.2.1.l];exact H.out.n1) (by rw[Hp.out.2.1.l];omega);rw[Hp.out.2.2.2.1,Hp.out.2.1.l,Hp.out.2.2.1.l]at hP;have HDv:=kH hP;have HS3:=kH (show(fun Y:World=>Y.cell? ⟨Cb,0,none⟩=some (.pointer (some ⟨Bb,0,none⟩))/\True) w3 from⟨((HD.out.c.up Hk2.out.up).up k.up).2.2,trivial⟩);clear k b3 hP HM2;refine hKK.out _ _ (HS3.out) (fun hHh=>?_);clear hKK KK
 try simp only[Act.put,yL]
 refine rd 16 (fun KK hKK=>?_);clear hHh;go_simp;refine HDv.out.mono ?_;rintro e w4 ⟨A5,c5,A6,c6,tg5,rfl,k,kr⟩;have Hk4:=kH (And.intro k kr);have HU4:=kH (H.out.ud.trans (Hk2.out.up.trans (Hk3.out.up.trans k.up)));have HC4:=kH (((HD.out.c.up Hk2.out.up).up Hk3.out.up).up k.up);have HS4:=kH (show(fun Y:World=>Y.cell? ⟨Cb,0,none⟩=some (.pointer (some ⟨Bb,0,none⟩))/\True) w4 from⟨HC4.out.2.2,trivial⟩);clear k kr HDv;refine hKK.out _ _ (HS4.out) (fun hHh=>?_);clear hKK KK
 try simp only[Act.put,yL]
 refine tK 17 ?_;refine tK 18 ?_;refine tK 19 ?_;refine tK 20 ?_;refine tK 21 ?_;refine wpAnyH_done (by kernel_rfl) ?_ _;have hsz:w.heap.size<=w3.heap.size:=by
  have z1:=H.out.ud.un.size;have z2:=Hk2.out.up.un.size;have z3:=Hk3.out.up.un.size;omega
 obtain⟨v4,b4⟩:=Hk4.out.1.bu;have b4d:=b4.dr ((Dr.refl _).drew);have u4:=b4.up ((Below.refl _ w4).drew);have HQ:=kH ((Hk4.out.2.wd Hp.out.2.2.2.2.1.rl).up u4);have hP:=aI5 b4d HQ.out Hp.out.2.2.2.2.1.r (by rw[Hp.out.2.2.2.2.1.rl];exact H.out.n1) (by rw[Hp.out.2.2.2.2.1.rl];omega);rw[Hp.out.2.2.2.2.2.1,Hp.out.2.2.2.2.1.rl]at hP;have HMi:=kH hP;have hC4:=HC4.out.2.2;have Hw4:=kH (And.intro u4 (And.intro (HC4.out.up u4) hsz));clear b4 b4d u4 k0 e1 hsz hP
 go_upto_region 22 with(fail)
 refine wp_region_held_drew (S:=fun Y:World=>Y.cell? ⟨Cb,0,none⟩=some (.pointer (some ⟨Bb,0,none⟩))/\True) (by kernel_rfl) (⟨hC4,trivial⟩) (fun hHh=>?_);refine tK 0 ?_;refine tK 1 ?_;refine tK 2 ?_;refine tK 3 ?_;refine tK 4 ?_;refine tK 5 ?_;refine tK 6 ?_;refine tK 7 ?_;refine tK 8 ?_;refine tK 9 ?_;refine tK 11 ?_;refine rd 10 (fun KK hKK=>?_);clear hHh;go_simp;refine HMi.out.mono ?_;rintro e w6 ⟨A7,c7,tg7,rfl,k⟩;rw[Hp.out.2.2.2.2.2.2.1.l]at k⊢;obtain⟨v7,b7⟩:=k.bu;have hP:=aEm b7 Hlx.out.2 (k.wd' Hp.out.2.2.2.2.2.2.1.l) (HQ.out.up k.up) Hp.out.2.2.2.2.2.2.1.w Hp.out.2.2.2.2.1.r (by rw[Hp.out.2.2.2.2.2.2.1.l,Hp.out.2.2.2.2.1.rl]) (by rw[Hp.out.2.2.2.2.2.2.1.l];omega);rw[Hp.out.2.2.2.2.2.2.1.l,Hp.out.2.2.2.2.1.rl]at hP;have HPk:=kH hP;have HU7:=kH k.up;have HS6:=kH (show(fun Y:World=>Y.cell? ⟨Cb,0,none⟩=some (.pointer (some ⟨Bb,0,none⟩))/\True) w6 from⟨(Hw4.out.2.1.up k.up).2.2,trivial⟩);clear k b7 hP HMi;refine hKK.out _ _ (HS6.out) (fun hHh=>?_);clear hKK KK
 try simp only[Act.put,yL]
 refine rd 12 (fun KK hKK=>?_);clear hHh;go_simp;refine HPk.out.mono ?_;rintro e w7 ⟨A8,c8,tg8,rfl,k⟩;have Hk8:=kH k;have HS7:=kH (show(fun Y:World=>Y.cell? ⟨Cb,0,none⟩=some (.pointer (some ⟨Bb,0,none⟩))/\True) w7 from⟨((Hw4.out.2.1.up HU7.out).up k.up).2.2,trivial⟩);clear k HPk;refine hKK.out _ _ (HS7.out) (fun hHh=>?_);clear hKK KK
 try simp only[Act.put,yL]
 refine tK 13 ?_;refine wpAnyH_done (by kernel_rfl) ?_ _;go_wp2;go_ret;rw[He.out];exact⟨A8,c8,tg8,rfl,Hk8.out.from_ (HU4.out.trans (Hw4.out.1.trans HU7.out))⟩
end
section
variable {w w' : World} {B0 Bb Mb Cb : Nat} {tg tg' : TgF} {vc : Value} {b : C.Bd} {A1 A2 : Option Addr} {c1 c2 n : Nat} {x y : List Int}
theorem aT8(h:ArI w B0 Bb Mb Cb tg vc b A1 A2 c1 c2 x y n):
 Calls prog 119 #[.pointer (some ⟨Cb,0,none⟩), .int .i64 8, .slice A1 n c1, .slice A2 n c2] w (WPost w B0 Bb Mb tg (C.arith 8 x y b)):=by
 have H:=kH h;have h1:=h.n1;have hm:=h.nm;obtain⟨g1,o1,rfl,e1⟩:=h.wx.cell (i:=x.length-1) (by have:=h.xl;omega);obtain⟨l,hl⟩:∃l,C.lastL x=l:=⟨_,rfl⟩;rw[show x.getD (x.length-1) 0=l from hl,h.xl]at e1;have il:C.Ib l:=by rw[<-hl];exact wb_at h.xb (by have:=h.xl;omega)
 have Hlx:=kH (And.intro hl il);obtain⟨m1,hm1⟩:∃m1,n-1=m1:=⟨_,rfl⟩;have hmi:((n:Nat):Int)-1=((m1:Nat):Int):=by omega
 rw[hm1]at e1;have hlt:m1<n:=by omega
 have hwi:IntKind.i64.wrap ((m1:Nat):Int)=((m1:Nat):Int):=IntWalk.i64_in _ (by omega);have hlt2:((m1:Nat):Int) <((n:Nat):Int):=by omega
 have k0:=h.c.2.2;have Hm1:=kH hm1;have Hbo:=kH (aIg (op:=8) h.xb h.yb h.b.bo (by rw[h.xl,h.yl];exact zBJ _));have HW0:=kH (show WSt w B0 Bb Mb tg (C.bwTo 8 x y b 0) (.slice none 0 0) w tg from⟨⟨vc,h.b⟩,Up.refl _ _ _,WdNew.nil _ _ _⟩);have He:=kH (show C.arith 8 x y b=C.bwTo 8 x y b n from by rw[C.aVe,h.xl]);have Hcf:=kH (show∀(args:Array Value) (X:World),Sem.run prog (callFunc 161 args) X= .ok (.enter 161 args) X from fun args X=>by simp[go_sem,callFunc,Tryz.f161]);have hB0:=h.b.lt Bb _ h.b.st.2;clear h hl il hm1
 go_enter func119,ntmps119
 go_wp2;clear e1 k0 hmi hlt hwi hlt2
 go_loopw [22,208] (fun v i wr=>∃k:Nat,k<=n/\i= .int .i64 (k:Int)/\∃A cap tg',v= .slice A k cap/\Hid (WSt w B0 Bb Mb tg (C.bwTo 8 x y b k) v wr tg')) (fun _ i _=>n- (intOf i).toNat)
 case atStart=>exact⟨0,zBL _,rfl,none,0,tg,rfl,HW0⟩
 case round=>
  obtain⟨k,hk,rfl,A,cap,tgk,rfl,HS⟩:=hrel
  by_cases hlt:k<n
  ·obtain⟨g1',o1',q1,e1⟩:=(H.out.wx.up HS.out.up).cell (i:=k) (by rw[H.out.xl];exact hlt);injection q1 with q1
   injection q1 with q1 q2
   subst q1 q2;obtain⟨g2,o2,rfl,e2⟩:=(H.out.wy.up HS.out.up).cell (i:=k) (by rw[H.out.yl];exact hlt);have k0:=(H.out.c.up HS.out.up).2.2;obtain⟨xk,hxk⟩:∃v,x.getD k 0=v:=⟨_,rfl⟩;obtain⟨yk,hyk⟩:∃v,y.getD k 0=v:=⟨_,rfl⟩;have hbk:=Hbo.out k (by rw[H.out.xl];exact hk);obtain⟨r,hr⟩:∃r,C.bwTo 8 x y b k=r:=⟨_,rfl⟩;obtain⟨q,hq⟩:∃q,C.and xk yk r.2=q:=⟨_,rfl⟩;have hnx:C.bwTo 8 x y b (k+1)=(r.1 ++ [q.1],q.2):=by
    rw[C.bwTo,hxk,hyk,hr];rw[show C.bw1 8 xk yk r.2=q from by rw[<-hq];simp[C.bw1]]
   obtain⟨vck,hbu⟩:=HS.out.bu;rw[hr]at hbu HS hbk;rw[hxk]at e1;rw[hyk]at e2;have hrl:r.1.length=k:=hbk.l;have hbd:BAt wr.drew B0 Bb Mb tgk vck r.2:=hbu.dr ((Dr.refl _).drew);have hud:Up B0 tgk wr tgk wr.drew:=hbu.up ((Below.refl _ _).drew);have HP:=kH (aD7 hbd (x:=xk) (y:=yk) (by rw[<-hxk];exact wb_at H.out.xb (by rw[H.out.xl];exact hlt)) (by rw[<-hyk];exact wb_at H.out.yb (by rw[H.out.yl];exact hlt)));rw[hq]at HP;have Hud:=kH hud;have Hnx:=kH (And.intro hnx hrl);clear hxk hyk hr hq hbu hbd hud hnx hrl hbk
   go_upto_region 36 with(fail)
   go_wp2
   go_region_law (first
    | (refine aCs rfl 161 Hcf.out (.tmp 234) (.tmp 238) (.tmp 242) _ _ _ rfl (.pointer (some ⟨Bb, 0, none⟩)) (.int .i64 xk) (.int .i64 yk) (by go_simp) (by go_simp) (by go_simp) HP.out ?_
       rintro e w2 ⟨rfl,tg2,v2,k1,k2⟩;refine⟨_,rfl,?_⟩;have HK:=kH (show WSt w B0 Bb Mb tg (r.1,q.2) (.slice A k cap) w2 tg2 from⟨⟨v2,k1⟩,HS.out.up.trans (Hud.out.trans k2),HS.out.nw.up (Hud.out.trans k2)⟩);clear k1 k2)
    | (refine aBp _ rfl (.tmp 230) (.tmp 244) 69 rfl 3 (.int .i64 0) 1 8 underlying69 Tryz.sinfoInt rfl (by decide) (.slice A k cap) k (siv r.1) (by go_simp) ((by have h0 := HK.out.nw.1; rw [show ((r.1, q.2) : List Int × C.Bd).1.length = k from Hnx.out.2] at h0; exact h0.alloc _)) (some ⟨w2.heap.size, 0, none⟩) 1 1 [.int .i64 q.1] (by go_simp) rfl (aE9 w2 [.int .i64 q.1] _) (by simp; rfl) (by omega) (by decide) ?_
       intro v' w4 hown hgr hat;obtain⟨Av,cv,hv⟩:=hown.form;subst hv;have Hq:=kH (HK.out.app (by omega) (l:=q.1) (by rw[show((r.1,q.2):List Int×C.Bd).1.length=k from Hnx.out.2];exact hown) hgr hat);clear hown hgr hat))
   all_goals
    go_wp2;go_roundw
    case rel=>exact⟨k+1,by omega,by go_num,Av,cv,tg2,rfl,by rw[Hnx.out.1];exact Hq⟩
    case measure=>simp[intOf];omega
  ·have hkm:k=n:=by omega
   subst hkm;go_wp2;go_ret;rw[He.out];exact WPost.of (Hbo.out k (by rw[H.out.xl];exact zBJ _)).l HS.out
theorem aT9(h:ArI w B0 Bb Mb Cb tg vc b A1 A2 c1 c2 x y n):
 Calls prog 119 #[.pointer (some ⟨Cb,0,none⟩), .int .i64 9, .slice A1 n c1, .slice A2 n c2] w (WPost w B0 Bb Mb tg (C.arith 9 x y b)):=by
 have H:=kH h;have h1:=h.n1;have hm:=h.nm;obtain⟨g1,o1,rfl,e1⟩:=h.wx.cell (i:=x.length-1) (by have:=h.xl;omega);obtain⟨l,hl⟩:∃l,C.lastL x=l:=⟨_,rfl⟩;rw[show x.getD (x.length-1) 0=l from hl,h.xl]at e1;have il:C.Ib l:=by rw[<-hl];exact wb_at h.xb (by have:=h.xl;omega)
 have Hlx:=kH (And.intro hl il);obtain⟨m1,hm1⟩:∃m1,n-1=m1:=⟨_,rfl⟩;have hmi:((n:Nat):Int)-1=((m1:Nat):Int):=by omega
 rw[hm1]at e1;have hlt:m1<n:=by omega
 have hwi:IntKind.i64.wrap ((m1:Nat):Int)=((m1:Nat):Int):=IntWalk.i64_in _ (by omega);have hlt2:((m1:Nat):Int) <((n:Nat):Int):=by omega
 have k0:=h.c.2.2;have Hm1:=kH hm1;have Hbo:=kH (aIg (op:=9) h.xb h.yb h.b.bo (by rw[h.xl,h.yl];exact zBJ _));have HW0:=kH (show WSt w B0 Bb Mb tg (C.bwTo 9 x y b 0) (.slice none 0 0) w tg from⟨⟨vc,h.b⟩,Up.refl _ _ _,WdNew.nil _ _ _⟩);have He:=kH (show C.arith 9 x y b=C.bwTo 9 x y b n from by rw[C.aVf,h.xl]);have Hcf:=kH (show∀(args:Array Value) (X:World),Sem.run prog (callFunc 162 args) X= .ok (.enter 162 args) X from fun args X=>by simp[go_sem,callFunc,Tryz.f162]);have hB0:=h.b.lt Bb _ h.b.st.2;clear h hl il hm1
 go_enter func119,ntmps119
 go_wp2;clear e1 k0 hmi hlt hwi hlt2
 go_loopw [22,208] (fun v i wr=>∃k:Nat,k<=n/\i= .int .i64 (k:Int)/\∃A cap tg',v= .slice A k cap/\Hid (WSt w B0 Bb Mb tg (C.bwTo 9 x y b k) v wr tg')) (fun _ i _=>n- (intOf i).toNat)
 case atStart=>exact⟨0,zBL _,rfl,none,0,tg,rfl,HW0⟩
 case round=>
  obtain⟨k,hk,rfl,A,cap,tgk,rfl,HS⟩:=hrel
  by_cases hlt:k<n
  ·obtain⟨g1',o1',q1,e1⟩:=(H.out.wx.up HS.out.up).cell (i:=k) (by rw[H.out.xl];exact hlt);injection q1 with q1
   injection q1 with q1 q2
   subst q1 q2;obtain⟨g2,o2,rfl,e2⟩:=(H.out.wy.up HS.out.up).cell (i:=k) (by rw[H.out.yl];exact hlt);have k0:=(H.out.c.up HS.out.up).2.2;obtain⟨xk,hxk⟩:∃v,x.getD k 0=v:=⟨_,rfl⟩;obtain⟨yk,hyk⟩:∃v,y.getD k 0=v:=⟨_,rfl⟩;have hbk:=Hbo.out k (by rw[H.out.xl];exact hk);obtain⟨r,hr⟩:∃r,C.bwTo 9 x y b k=r:=⟨_,rfl⟩;obtain⟨q,hq⟩:∃q,C.or xk yk r.2=q:=⟨_,rfl⟩;have hnx:C.bwTo 9 x y b (k+1)=(r.1 ++ [q.1],q.2):=by
    rw[C.bwTo,hxk,hyk,hr];rw[show C.bw1 9 xk yk r.2=q from by rw[<-hq];simp[C.bw1]]
   obtain⟨vck,hbu⟩:=HS.out.bu;rw[hr]at hbu HS hbk;rw[hxk]at e1;rw[hyk]at e2;have hrl:r.1.length=k:=hbk.l;have hbd:BAt wr.drew B0 Bb Mb tgk vck r.2:=hbu.dr ((Dr.refl _).drew);have hud:Up B0 tgk wr tgk wr.drew:=hbu.up ((Below.refl _ _).drew);have HP:=kH (aOt hbd (x:=xk) (y:=yk) (by rw[<-hxk];exact wb_at H.out.xb (by rw[H.out.xl];exact hlt)) (by rw[<-hyk];exact wb_at H.out.yb (by rw[H.out.yl];exact hlt)));rw[hq]at HP;have Hud:=kH hud;have Hnx:=kH (And.intro hnx hrl);clear hxk hyk hr hq hbu hbd hud hnx hrl hbk
   go_upto_region 38 with(fail)
   go_wp2
   go_region_law (first
    | (refine aCs rfl 162 Hcf.out (.tmp 252) (.tmp 256) (.tmp 260) _ _ _ rfl (.pointer (some ⟨Bb, 0, none⟩)) (.int .i64 xk) (.int .i64 yk) (by go_simp) (by go_simp) (by go_simp) HP.out ?_
       rintro e w2 ⟨rfl,tg2,v2,k1,k2⟩;refine⟨_,rfl,?_⟩;have HK:=kH (show WSt w B0 Bb Mb tg (r.1,q.2) (.slice A k cap) w2 tg2 from⟨⟨v2,k1⟩,HS.out.up.trans (Hud.out.trans k2),HS.out.nw.up (Hud.out.trans k2)⟩);clear k1 k2)
    | (refine aBp _ rfl (.tmp 248) (.tmp 262) 69 rfl 3 (.int .i64 0) 1 8 underlying69 Tryz.sinfoInt rfl (by decide) (.slice A k cap) k (siv r.1) (by go_simp) ((by have h0 := HK.out.nw.1; rw [show ((r.1, q.2) : List Int × C.Bd).1.length = k from Hnx.out.2] at h0; exact h0.alloc _)) (some ⟨w2.heap.size, 0, none⟩) 1 1 [.int .i64 q.1] (by go_simp) rfl (aE9 w2 [.int .i64 q.1] _) (by simp; rfl) (by omega) (by decide) ?_
       intro v' w4 hown hgr hat;obtain⟨Av,cv,hv⟩:=hown.form;subst hv;have Hq:=kH (HK.out.app (by omega) (l:=q.1) (by rw[show((r.1,q.2):List Int×C.Bd).1.length=k from Hnx.out.2];exact hown) hgr hat);clear hown hgr hat))
   all_goals
    go_wp2;go_roundw
    case rel=>exact⟨k+1,by omega,by go_num,Av,cv,tg2,rfl,by rw[Hnx.out.1];exact Hq⟩
    case measure=>simp[intOf];omega
  ·have hkm:k=n:=by omega
   subst hkm;go_wp2;go_ret;rw[He.out];exact WPost.of (Hbo.out k (by rw[H.out.xl];exact zBJ _)).l HS.out
theorem aSt(h:ArI w B0 Bb Mb Cb tg vc b A1 A2 c1 c2 x y n):
 Calls prog 119 #[.pointer (some ⟨Cb,0,none⟩), .int .i64 10, .slice A1 n c1, .slice A2 n c2] w (WPost w B0 Bb Mb tg (C.arith 10 x y b)):=by
 have H:=kH h;have h1:=h.n1;have hm:=h.nm;obtain⟨g1,o1,rfl,e1⟩:=h.wx.cell (i:=x.length-1) (by have:=h.xl;omega);obtain⟨l,hl⟩:∃l,C.lastL x=l:=⟨_,rfl⟩;rw[show x.getD (x.length-1) 0=l from hl,h.xl]at e1;have il:C.Ib l:=by rw[<-hl];exact wb_at h.xb (by have:=h.xl;omega)
 have Hlx:=kH (And.intro hl il);obtain⟨m1,hm1⟩:∃m1,n-1=m1:=⟨_,rfl⟩;have hmi:((n:Nat):Int)-1=((m1:Nat):Int):=by omega
 rw[hm1]at e1;have hlt:m1<n:=by omega
 have hwi:IntKind.i64.wrap ((m1:Nat):Int)=((m1:Nat):Int):=IntWalk.i64_in _ (by omega);have hlt2:((m1:Nat):Int) <((n:Nat):Int):=by omega
 have k0:=h.c.2.2;have Hm1:=kH hm1;have Hbo:=kH (aIg (op:=10) h.xb h.yb h.b.bo (by rw[h.xl,h.yl];exact zBJ _));have HW0:=kH (show WSt w B0 Bb Mb tg (C.bwTo 10 x y b 0) (.slice none 0 0) w tg from⟨⟨vc,h.b⟩,Up.refl _ _ _,WdNew.nil _ _ _⟩);have He:=kH (show C.arith 10 x y b=C.bwTo 10 x y b n from by rw[C.aRl,h.xl]);have Hcf:=kH (show∀(args:Array Value) (X:World),Sem.run prog (callFunc 157 args) X= .ok (.enter 157 args) X from fun args X=>by simp[go_sem,callFunc,Tryz.f157]);have hB0:=h.b.lt Bb _ h.b.st.2;clear h hl il hm1
 go_enter func119,ntmps119
 go_wp2;clear e1 k0 hmi hlt hwi hlt2
 go_loopw [22,208] (fun v i wr=>∃k:Nat,k<=n/\i= .int .i64 (k:Int)/\∃A cap tg',v= .slice A k cap/\Hid (WSt w B0 Bb Mb tg (C.bwTo 10 x y b k) v wr tg')) (fun _ i _=>n- (intOf i).toNat)
 case atStart=>exact⟨0,zBL _,rfl,none,0,tg,rfl,HW0⟩
 case round=>
  obtain⟨k,hk,rfl,A,cap,tgk,rfl,HS⟩:=hrel
  by_cases hlt:k<n
  ·obtain⟨g1',o1',q1,e1⟩:=(H.out.wx.up HS.out.up).cell (i:=k) (by rw[H.out.xl];exact hlt);injection q1 with q1
   injection q1 with q1 q2
   subst q1 q2;obtain⟨g2,o2,rfl,e2⟩:=(H.out.wy.up HS.out.up).cell (i:=k) (by rw[H.out.yl];exact hlt);have k0:=(H.out.c.up HS.out.up).2.2;obtain⟨xk,hxk⟩:∃v,x.getD k 0=v:=⟨_,rfl⟩;obtain⟨yk,hyk⟩:∃v,y.getD k 0=v:=⟨_,rfl⟩;have hbk:=Hbo.out k (by rw[H.out.xl];exact hk);obtain⟨r,hr⟩:∃r,C.bwTo 10 x y b k=r:=⟨_,rfl⟩;obtain⟨q,hq⟩:∃q,C.xor xk yk r.2=q:=⟨_,rfl⟩;have hnx:C.bwTo 10 x y b (k+1)=(r.1 ++ [q.1],q.2):=by
    rw[C.bwTo,hxk,hyk,hr];rw[show C.bw1 10 xk yk r.2=q from by rw[<-hq];simp[C.bw1]]
   obtain⟨vck,hbu⟩:=HS.out.bu;rw[hr]at hbu HS hbk;rw[hxk]at e1;rw[hyk]at e2;have hrl:r.1.length=k:=hbk.l;have hbd:BAt wr.drew B0 Bb Mb tgk vck r.2:=hbu.dr ((Dr.refl _).drew);have hud:Up B0 tgk wr tgk wr.drew:=hbu.up ((Below.refl _ _).drew);have HP:=kH (aHp hbd (x:=xk) (y:=yk) (by rw[<-hxk];exact wb_at H.out.xb (by rw[H.out.xl];exact hlt)) (by rw[<-hyk];exact wb_at H.out.yb (by rw[H.out.yl];exact hlt)));rw[hq]at HP;have Hud:=kH hud;have Hnx:=kH (And.intro hnx hrl);clear hxk hyk hr hq hbu hbd hud hnx hrl hbk
   go_upto_region 34 with(fail)
   go_wp2
   go_region_law (first
    | (refine aCs rfl 157 Hcf.out (.tmp 216) (.tmp 220) (.tmp 224) _ _ _ rfl (.pointer (some ⟨Bb, 0, none⟩)) (.int .i64 xk) (.int .i64 yk) (by go_simp) (by go_simp) (by go_simp) HP.out ?_
       rintro e w2 ⟨rfl,tg2,v2,k1,k2⟩;refine⟨_,rfl,?_⟩;have HK:=kH (show WSt w B0 Bb Mb tg (r.1,q.2) (.slice A k cap) w2 tg2 from⟨⟨v2,k1⟩,HS.out.up.trans (Hud.out.trans k2),HS.out.nw.up (Hud.out.trans k2)⟩);clear k1 k2)
    | (refine aBp _ rfl (.tmp 212) (.tmp 226) 69 rfl 3 (.int .i64 0) 1 8 underlying69 Tryz.sinfoInt rfl (by decide) (.slice A k cap) k (siv r.1) (by go_simp) ((by have h0 := HK.out.nw.1; rw [show ((r.1, q.2) : List Int × C.Bd).1.length = k from Hnx.out.2] at h0; exact h0.alloc _)) (some ⟨w2.heap.size, 0, none⟩) 1 1 [.int .i64 q.1] (by go_simp) rfl (aE9 w2 [.int .i64 q.1] _) (by simp; rfl) (by omega) (by decide) ?_
       intro v' w4 hown hgr hat;obtain⟨Av,cv,hv⟩:=hown.form;subst hv;have Hq:=kH (HK.out.app (by omega) (l:=q.1) (by rw[show((r.1,q.2):List Int×C.Bd).1.length=k from Hnx.out.2];exact hown) hgr hat);clear hown hgr hat))
   all_goals
    go_wp2;go_roundw
    case rel=>exact⟨k+1,by omega,by go_num,Av,cv,tg2,rfl,by rw[Hnx.out.1];exact Hq⟩
    case measure=>simp[intOf];omega
  ·have hkm:k=n:=by omega
   subst hkm;go_wp2;go_ret;rw[He.out];exact WPost.of (Hbo.out k (by rw[H.out.xl];exact zBJ _)).l HS.out
theorem aXd(h:ArI w B0 Bb Mb Cb tg vc b A1 A2 c1 c2 x y n){op:Int}(h1:1<=op)(h2:op<=13):
 Calls prog 119 #[.pointer (some ⟨Cb,0,none⟩), .int .i64 op, .slice A1 n c1, .slice A2 n c2] w (WPost w B0 Bb Mb tg (C.arith op x y b)):=by
 have hc:op=1\/op=2\/op=3\/op=4\/op=5\/op=6\/op=7\/op=8\/op=9\/op=10\/op=11\/op=12\/op=13:=by omega
 rcases hc with rfl | rfl | rfl | rfl | rfl | rfl | rfl | rfl | rfl | rfl | rfl | rfl | rfl
 ·exact aT1 h
 ·exact aT5 h
 ·exact aT2 h
 ·exact aT3 h
 ·exact aT4 h
 ·exact aT6 h
 ·exact aT7 h
 ·exact aT8 h
 ·exact aT9 h
 ·exact aSt h
 ·exact aSq h
 ·exact aSr h
 ·exact aSs h
end
end
end Go.Proofs.YtchdbhggbdcapaaGreat
