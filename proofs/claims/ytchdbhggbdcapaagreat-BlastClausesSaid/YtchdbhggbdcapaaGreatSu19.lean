/- Part. -/
import Derived.Test.YtchdbhggbdcapaaGreatSuLX
import Derived.Test.YtchdbhggbdcapaaGreatSu18
set_option linter.unusedVariables false
set_option linter.unusedSimpArgs false
set_option maxRecDepth 100000
set_option maxHeartbeats 16000000
namespace Go.Proofs.YtchdbhggbdcapaaGreat
open _root_.Go.Proofs.Tryz
section
open Go.RowKit Go.MapKept Go.Maps Go.WideMaps
theorem aZc{w:World}{e:TypeId}{g o n c m:Nat}{xs:List Value}(h:OwnAt w e 1 (.slice (some ⟨g,o,none⟩) n c) n xs)(hm:m<=n):OwnAt w e 1 (.slice (some ⟨g,o,none⟩) m m) m (xs.take m):=by
 obtain⟨h1,h2⟩:=h;rcases h2 with⟨h2,h3⟩ |⟨g',off',cap,cur,e1,hc,i1,i2,i3,i4⟩
 ·cases h2
 ·cases e1;refine⟨by rw[zAZ,h1];omega, .inr ⟨g,o,m,cur,rfl,hc,zBJ _,by omega,by omega,fun j u hu=>?_⟩⟩;rw[zBB]at hu;split at hu
  ·exact i4 j u hu
  ·cases hu
theorem aOv{imm:Int}{k:Nat}(h0:0<=imm)(h1:imm<4294967296):(bits BinOp.and IntKind.u32 (imm / 2 ^ k) 1 == 1)=imm.toNat.testBit k:=by
 obtain⟨n,rfl⟩:∃n:Nat,imm=n:=⟨imm.toNat,by omega⟩;have e:((n:Int) / 2 ^ k)=((n / 2 ^ k:Nat):Int):=by simp
 rw[e];have hle:n / 2 ^ k<=n:=Nat.div_le_self _ _;rw[zBA,Nat.testBit_eq_decide_div_mod_eq];generalize n / 2 ^ k=z at hle⊢;have hm:=B.aIj (n:=1) (x:=((z:Nat):Int)) (by decide) (by omega) (by omega);rw[show B.pw 1-1=1 from by decide,show B.pw 1=2 from by decide]at hm;rw[hm]
 by_cases h:z % 2=1
 ·rw[zBO h];have:((z:Int) % 2)=1:=by omega
  rw[this];rfl
 ·rw[zBP h];have:((z:Int) % 2)=0:=by omega
  rw[this];rfl
def cwTo(w:Nat)(imm:Int)(k:Nat):List Int:=(List.range w).map fun i=>if i<k/\imm.toNat.testBit i=true then 1 else -1
theorem bBx(w:Nat)(imm:Int)(k:Nat):(cwTo w imm k).length=w:=by simp[cwTo]
theorem aZd(w:Nat)(imm:Int):cwTo w imm 0=C.rep w (-1):=by
 apply List.ext_getElem
 ·simp[cwTo,C.rep]
 ·intro i h1 h2;simp[cwTo,C.rep]
theorem bBy(w:Nat)(imm:Int):cwTo w imm w=C.aB6 w imm:=by
 unfold cwTo C.aB6;apply List.map_congr_left;intro i hi;rw[zBR]at hi;simp[hi]
theorem bBz{w:Nat}{imm:Int}{k:Nat}(h:imm.toNat.testBit k=true)(hk:k<w):cwTo w imm (k+1)=(cwTo w imm k).set k 1:=by
 apply List.ext_getElem
 ·simp[cwTo]
 ·intro i h1 h2;rw[List.getElem_set];simp only[cwTo,List.getElem_map,List.getElem_range]
  by_cases e:k=i
  ·subst e;rw[if_pos ⟨Nat.lt_succ_self _,h⟩,if_pos rfl]
  ·rw[if_neg e]
   by_cases e2:i<k
   ·simp[e2,Nat.lt_succ_of_lt e2]
   ·rw[if_neg (by omega),if_neg (by omega)]
theorem bD4{w:Nat}{imm:Int}{k:Nat}(h:imm.toNat.testBit k=false):cwTo w imm (k+1)=cwTo w imm k:=by
 unfold cwTo;apply List.map_congr_left;intro i hi
 by_cases e:i=k
 ·subst e;simp[h]
 ·have:(i<k+1)↔(i<k):=by omega
  simp[this]
def aCv(w:World)(B0 Bb Mb:Nat)(tg:TgF)(r:List Int×C.Bd)(e:Ending)(w':World):Prop:=
 ∃A cap tg' vc',e= .returned (.slice A r.1.length cap)/\BAt w' B0 Bb Mb tg' vc' r.2/\Up B0 tg w tg' w'/\WdAt w' tg' A cap r.1
theorem aCv.of{w:World}{B0 Bb Mb:Nat}{tg:TgF}{l:List Int}{b:C.Bd}{A:Option Addr}{m cap:Nat}{tg':TgF}{vc':Value}{w':World}(hl:l.length=m)(h1:BAt w' B0 Bb Mb tg' vc' b)(h2:Up B0 tg w tg' w')(h3:WdAt w' tg' A cap l):aCv w B0 Bb Mb tg (l,b) (.returned (.slice A m cap)) w':=by
 subst hl;exact⟨A,cap,tg',vc',rfl,h1,h2,h3⟩
structure NdM(w:World)(tg:TgF)(bc bx Cb:Nat)(x:T.Nd)(Aa:Option Addr)(ca:Nat):Prop where
 rc:w.heap[bc]? =some (.cells #[.pointer (some ⟨Cb,0,none⟩)] 62 (0,0))
 rx:w.heap[bx]? =some (.cells (ndC x Aa ca).toArray 56 (0,0))
 tc:tg bc=none
 tx:tg bx=none
theorem iinfo:∃ii,prog.info? 3=some ii/\ii.zero=some (.int .i64 0)/\ii.size=1/\ii.bytes=8:=by
 have h:=Tryz.sinfoInt;cases e:prog.info? 3 with
 | none=>rw[e]at h;cases h
 | some ii=>
  rw[e]at h;simp only[Option.map_some,Option.some.injEq,Prod.mk.injEq]at h;exact⟨ii,rfl,h.1,h.2.1,h.2.2⟩
section
variable {w w' : World} {B0 Bb Mb Cb Wb n bc bx ca : Nat} {tg tg' : TgF} {vc : Value} {b : C.Bd} {vars words : List (List Int)} {x : T.Nd} {Aa : Option Addr}
theorem NdM.up(h:NdM w tg bc bx Cb x Aa ca)(u:Up B0 tg w tg' w'):NdM w' tg' bc bx Cb x Aa ca:=by
 have q1:=u.un.no bc (gA h.rc).1 h.tc;have q2:=u.un.no bx (gA h.rx).1 h.tx;exact⟨q1.2.trans h.rc,q2.2.trans h.rx,q1.1,q2.1⟩
theorem NdM.cc(h:NdM w tg bc bx Cb x Aa ca):w.cell? ⟨bc,0,none⟩=some (.pointer (some ⟨Cb,0,none⟩)):=by rw[cell_of_row _ _ _ _ _ (0,0) h.rc];rfl
theorem NdM.cx(h:NdM w tg bc bx Cb x Aa ca)(j:Nat)(u:Value)(hu:(ndC x Aa ca)[j]? =some u):w.cell? ⟨bx,j,none⟩=some u:=by
 rw[cell_of_row _ _ _ _ _ (0,0) h.rx,zAV];exact hu
theorem aZe(hM:NdM w tg bc bx Cb x Aa ca)(hC:CtAt w tg Cb Bb Wb n vars words)(ha:SlAt (IntR .i64) w Aa x.args.length x.args){i:Nat}(hi:i<x.args.length){l:List Int}(h0:0<=x.args.getD i 0)(hl:words[(x.args.getD i 0).toNat]? =some l):
 ∃A c,WdAt w tg A c l/\Calls prog 115 #[.int .i64 (i:Int), .pointer (some ⟨bc,0,none⟩), .pointer (some ⟨bx,0,none⟩)] w fun e w'=>e= .returned (.slice A l.length c)/\Dr w w':=by
 obtain⟨y,bb,off,u,hy,rfl,hb,hc,rfl⟩:=ha.at_ hi;rw[show x.args.getD i 0=y from by rw[List.getD,hy];rfl]at h0 hl;obtain⟨j,rfl⟩:∃j:Nat,y=j:=⟨y.toNat,by omega⟩;rw[zBA]at hl;obtain⟨A,c,hjn,cw,hw⟩:=hC.word hl;have hle:=ha.le;have k1:=hM.cc;have k2:=hM.cx 3 _ rfl;have k3:=hC.c5;refine⟨A,c,hw,?_⟩;obtain⟨m,hm⟩:∃m,l.length=m:=⟨_,rfl⟩;obtain⟨na,hna⟩:∃m,x.args.length=m:=⟨_,rfl⟩;rw[hm]at cw⊢;rw[hna]at k2 hi hle;clear hy ha hM hC hl hb hw h0 hm hna
 go_enter func115,ntmps115
 go_wp2
 go_quiet (fail)
 go_wp2;go_ret;exact⟨rfl,_,rfl⟩
structure NoI(w:World)(B0 Bb Mb Cb Wb n:Nat)(tg:TgF)(vc:Value)(b:C.Bd)(vars words:List (List Int))(x:T.Nd)(Aa:Option Addr):Prop where
 b:BAt w B0 Bb Mb tg vc b
 c:CtAt w tg Cb Bb Wb n vars words
 wl:words.length=n
 vl:vars.length=4
 ar:∀X,Below B0 w X->SlAt (IntR .i64) X Aa x.args.length x.args
 i0:0<=x.imm/\x.imm<4294967296
 w0:1<=x.w/\x.w<=32
 al:∀a∈x.args,0<=a/\a<n
 wb:∀a∈x.args,C.Wb (words.getD a.toNat [])
theorem NoI.arg(h:NoI w B0 Bb Mb Cb Wb n tg vc b vars words x Aa){i:Nat}(hi:i<x.args.length):0<=x.args.getD i 0/\words[(x.args.getD i 0).toNat]? =some (C.arg words x i)/\C.Wb (C.arg words x i):=by
 have hm:x.args.getD i 0∈x.args:=by rw[List.getD,zAB hi];exact zBM hi
 have h1:=h.al _ hm;have hl:=h.wl;refine⟨h1.1,?_,h.wb _ hm⟩;unfold C.arg;generalize x.args.getD i 0=a at h1⊢;rw[List.getD,zAB (by omega)];rfl
theorem NoI.call(h:NoI w B0 Bb Mb Cb Wb n tg vc b vars words x Aa){X:World}{tgX:TgF}(hC:CtAt X tgX Cb Bb Wb n vars words)(hM:NdM X tgX bc bx Cb x Aa ca)(hX:Below B0 w X){i:Nat}(hi:i<x.args.length):
 ∃A c,WdAt X tgX A c (C.arg words x i)/\Calls prog 115 #[.int .i64 (i:Int), .pointer (some ⟨bc,0,none⟩), .pointer (some ⟨bx,0,none⟩)] X fun e w'=>e= .returned (.slice A (C.arg words x i).length c)/\Dr X w':=
 aZe hM hC (h.ar X hX) hi (h.arg hi).1 (h.arg hi).2.1
theorem aUa(h:NoI w B0 Bb Mb Cb Wb n tg vc b vars words x Aa)(hop:x.op=33)(hv:x.imm<4):
 Calls prog 70 #[.pointer (some ⟨Cb,0,none⟩),ndV x Aa ca] w (aCv w B0 Bb Mb tg (vars.getD x.imm.toNat [],b)):=by
 have H:=kH h;obtain⟨W2,hW2⟩:∃W2,W2=(w.alloc (.cells #[.pointer (some ⟨Cb,0,none⟩)] 62)).alloc (.cells #[.int .i64 x.op, .int .i64 x.w, .int .i64 x.fl, .slice Aa x.args.length ca, .int .u32 x.imm] 56):=⟨_,rfl⟩;have hb2:Below w.heap.size w W2:=by rw[hW2];exact(al0).alloc (by simp) _
 have HU2:=kH (h.b.up hb2);have Hb2:=kH hb2;have HB2:=kH (h.b.below hb2);have HC2:=kH (h.c.up HU2.out);obtain⟨bc,hbc⟩:∃c,w.heap.size=c:=⟨_,rfl⟩;obtain⟨bx,hbx⟩:∃c,bc+1=c:=⟨_,rfl⟩;have HM2:Hid (NdM W2 tg bc bx Cb x Aa ca):=kH ⟨by
  rw[hW2,<-hbc];exact aA1 (heap_alloc_new w _) _,by
  rw[hW2,<-hbx,<-hbc];have:=heap_alloc_new (w.alloc (.cells #[.pointer (some ⟨Cb,0,none⟩)] 62)) (.cells #[.int .i64 x.op, .int .i64 x.w, .int .i64 x.fl, .slice Aa x.args.length ca, .int .u32 x.imm] 56);rw[World.size_alloc]at this;exact this,by rw[<-hbc];exact h.b.none_ (zBJ _),by rw[<-hbx,<-hbc];exact h.b.none_ (Nat.le_succ _)⟩
 have k0:=HM2.out.cx 0 _ rfl;have k1:=HM2.out.cx 1 _ rfl;have k4:=HM2.out.cx 4 _ rfl;have kc:=HM2.out.cc;obtain⟨m,hm⟩:∃m:Nat,x.imm=(m:Int):=⟨x.imm.toNat,by have:=h.i0;omega⟩;have hm4:m<4:=by omega
 have hvm:vars[m]? =some (vars.getD x.imm.toNat []):=by
  rw[hm,zBA,List.getD,zAB (by have:=h.vl;omega)];rfl
 obtain⟨Av,cv,k5,hwv⟩:=HC2.out.var hvm;have Hwv:=kH hwv;obtain⟨lv,hlv⟩:∃l,(vars.getD x.imm.toNat []).length=l:=⟨_,rfl⟩;have Hlv:=kH hlv;rw[hlv]at k5;rw[hop]at k0;rw[hm]at k4;clear hwv hvm hlv;rw[hop,hm]at hW2;have HW2:=kH hW2;have Hbb:=kH (And.intro hbc hbx);unfold ndV;clear h hb2 hW2 hbc hbx
 go_enter func70,ntmps70
 go_upto_region 2 with(fail)
 rw[<-HW2.out,Hbb.out.1,Hbb.out.2];clear HW2 Hbb
 go_upto_region 13 with(fail)
 go_wp2
 go_quiet (fail)
 go_wp2;go_ret;exact aCv.of Hlv.out (HB2.out.dr ⟨_,rfl⟩) (HU2.out.trans (HB2.out.up (Dr.below ⟨_,rfl⟩ _))) (Hwv.out.up (HB2.out.up (Dr.below ⟨_,rfl⟩ _)))
theorem aXe(h:NoI w B0 Bb Mb Cb Wb n tg vc b vars words x Aa)(ho1:1<=x.op)(ho2:x.op<=13)(hal:x.args.length=2)(hl0:(C.arg words x 0).length=x.w.toNat)(hl1:(C.arg words x 1).length=x.w.toNat):
 Calls prog 70 #[.pointer (some ⟨Cb,0,none⟩),ndV x Aa ca] w (aCv w B0 Bb Mb tg (C.arith x.op (C.arg words x 0) (C.arg words x 1) b)):=by
 have H:=kH h;obtain⟨W2,hW2⟩:∃W2,W2=(w.alloc (.cells #[.pointer (some ⟨Cb,0,none⟩)] 62)).alloc (.cells #[.int .i64 x.op, .int .i64 x.w, .int .i64 x.fl, .slice Aa x.args.length ca, .int .u32 x.imm] 56):=⟨_,rfl⟩;have hb2:Below w.heap.size w W2:=by rw[hW2];exact(al0).alloc (by simp) _
 have HU2:=kH (h.b.up hb2);have Hb2:=kH hb2;have HB2:=kH (h.b.below hb2);have HC2:=kH (h.c.up HU2.out);obtain⟨bc,hbc⟩:∃c,w.heap.size=c:=⟨_,rfl⟩;obtain⟨bx,hbx⟩:∃c,bc+1=c:=⟨_,rfl⟩;have HM2:Hid (NdM W2 tg bc bx Cb x Aa ca):=kH ⟨by
  rw[hW2,<-hbc];exact aA1 (heap_alloc_new w _) _,by
  rw[hW2,<-hbx,<-hbc];have:=heap_alloc_new (w.alloc (.cells #[.pointer (some ⟨Cb,0,none⟩)] 62)) (.cells #[.int .i64 x.op, .int .i64 x.w, .int .i64 x.fl, .slice Aa x.args.length ca, .int .u32 x.imm] 56);rw[World.size_alloc]at this;exact this,by rw[<-hbc];exact h.b.none_ (zBJ _),by rw[<-hbx,<-hbc];exact h.b.none_ (Nat.le_succ _)⟩
 have k0:=HM2.out.cx 0 _ rfl;have k1:=HM2.out.cx 1 _ rfl;have k4:=HM2.out.cx 4 _ rfl;have kc:=HM2.out.cc;obtain⟨m,hm⟩:∃m:Nat,x.w=(m:Int):=⟨x.w.toNat,by have:=h.w0;omega⟩;rw[show x.w.toNat=m by omega]at hl0 hl1;have Hw:=kH (And.intro hm (And.intro hl0 hl1));have q0:(x.op == 0)=false:=by simp;omega
 have q1:(x.op == 33)=false:=by simp;omega
 have q2:(x.op == 14)=false:=by simp;omega
 have q3:(x.op == 15)=false:=by simp;omega
 have q4:(x.op == 16)=false:=by simp;omega
 have q5:(x.op == 17)=false:=by simp;omega
 have q6:(x.op == 18)=false:=by simp;omega
 have Hal:=kH hal;have Hud:=kH (HB2.out.up ((Below.refl _ W2).drew));have HBd:=kH (HB2.out.dr ((Dr.refl _).drew));obtain⟨A0,c0,hw0,hc0⟩:=h.call (HC2.out.up Hud.out) (HM2.out.up Hud.out) ((HU2.out.trans Hud.out).bl) (i:=0) (by omega);rw[hl0]at hc0;rw[show((0:Nat):Int)=0 from rfl]at hc0;have Hw0:=kH hw0;have HC0:=kH hc0;clear hm hl0 hl1 hal hw0 hc0;have HW2:=kH hW2;have Hbb:=kH (And.intro hbc hbx);unfold ndV;clear h hb2 hW2 hbc hbx
 go_enter func70,ntmps70
 go_upto_region 2 with(fail)
 rw[<-HW2.out,Hbb.out.1,Hbb.out.2];clear HW2 Hbb
 go_upto_region 25 with(fail)
 refine wp_region_held_drew (S:=fun Y:World=>Y.cell? ⟨bc,0,none⟩=some (.pointer (some ⟨Cb,0,none⟩))/\Y.cell? ⟨bx,4,none⟩=some (.int .u32 x.imm)/\Y.cell? ⟨bx,1,none⟩=some (.int .i64 x.w)/\Y.cell? ⟨bx,0,none⟩=some (.int .i64 x.op)/\Y.cell? ⟨Cb,0,none⟩=some (.pointer (some ⟨Bb,0,none⟩))) (by kernel_rfl) (⟨kc,k4,k1,k0,HC2.out.cb.2.2⟩) (fun hHh=>?_);refine tK 0 ?_;refine tK 1 ?_;refine tK 2 ?_;refine tK 3 ?_;refine tK 5 ?_;refine rd 4 (fun KK hKK=>?_);clear hHh;go_simp;refine HC0.out.mono ?_;rintro e w3 ⟨rfl,hdr⟩;have hb:=hdr.below W2.drew.heap.size;have hu:=HBd.out.up hb;have HB3:=kH (HBd.out.below hb);have HU3:=kH (Hud.out.trans hu);have HW3:=kH (Hw0.out.up hu);obtain⟨A1,c1,hw1,hc1⟩:=H.out.call (HC2.out.up HU3.out) (HM2.out.up HU3.out) ((HU2.out.trans HU3.out).bl) (i:=1) (by rw[Hal.out];decide);rw[Hw.out.2.2]at hc1;rw[show((1:Nat):Int)=1 from rfl]at hc1;have Hw1:=kH hw1;have HC1:=kH hc1;have HS3:=kH (show(fun Y:World=>Y.cell? ⟨bc,0,none⟩=some (.pointer (some ⟨Cb,0,none⟩))/\Y.cell? ⟨bx,4,none⟩=some (.int .u32 x.imm)/\Y.cell? ⟨bx,1,none⟩=some (.int .i64 x.w)/\Y.cell? ⟨bx,0,none⟩=some (.int .i64 x.op)/\Y.cell? ⟨Cb,0,none⟩=some (.pointer (some ⟨Bb,0,none⟩))) w3 from⟨(HM2.out.up HU3.out).cc,(HM2.out.up HU3.out).cx 4 _ rfl,(HM2.out.up HU3.out).cx 1 _ rfl,(HM2.out.up HU3.out).cx 0 _ rfl,(HC2.out.up HU3.out).cb.2.2⟩);clear hb hu hdr hw1 hc1 HC0;refine hKK.out _ _ (HS3.out) (fun hHh=>?_);clear hKK KK
 try simp only[Act.put,yL]
 refine rd 6 (fun KK hKK=>?_);clear hHh;go_simp;refine HC1.out.mono ?_;rintro e w4 ⟨rfl,hdr⟩;have hb:=hdr.below w3.heap.size;have hu:=HB3.out.up hb;have HU4:=kH (HU3.out.trans hu);have hA:=aXd (op:=x.op) (n:=m) (Cb:=Cb) (vc:=vc) (show ArI w4 B0 Bb Mb Cb tg vc b A0 A1 c0 c1 (C.arg words x 0) (C.arg words x 1) m from⟨HB3.out.below hb,(HC2.out.up HU4.out).cb,HW3.out.up hu,Hw1.out.up hu,(H.out.arg (i:=0) (by rw[Hal.out];decide)).2.2,(H.out.arg (i:=1) (by rw[Hal.out];decide)).2.2,Hw.out.2.1,Hw.out.2.2,by have:=H.out.w0;have:=Hw.out.1;omega,by have:=H.out.w0;have:=Hw.out.1;omega⟩) ho1 ho2;have HA:=kH hA;have HS4:=kH (show(fun Y:World=>Y.cell? ⟨bc,0,none⟩=some (.pointer (some ⟨Cb,0,none⟩))/\Y.cell? ⟨bx,4,none⟩=some (.int .u32 x.imm)/\Y.cell? ⟨bx,1,none⟩=some (.int .i64 x.w)/\Y.cell? ⟨bx,0,none⟩=some (.int .i64 x.op)/\Y.cell? ⟨Cb,0,none⟩=some (.pointer (some ⟨Bb,0,none⟩))) w4 from⟨(HM2.out.up HU4.out).cc,(HM2.out.up HU4.out).cx 4 _ rfl,(HM2.out.up HU4.out).cx 1 _ rfl,(HM2.out.up HU4.out).cx 0 _ rfl,(HC2.out.up HU4.out).cb.2.2⟩);clear hb hu hdr hA HC1;refine hKK.out _ _ (HS4.out) (fun hHh=>?_);clear hKK KK
 try simp only[Act.put,yL]
 refine rd 7 (fun KK hKK=>?_);clear hHh;go_simp;refine HA.out.mono ?_;rintro e w5 ⟨A5,c5,tg5,rfl,k⟩;have Hk:=kH k;have HS5:=kH (show(fun Y:World=>Y.cell? ⟨bc,0,none⟩=some (.pointer (some ⟨Cb,0,none⟩))/\Y.cell? ⟨bx,4,none⟩=some (.int .u32 x.imm)/\Y.cell? ⟨bx,1,none⟩=some (.int .i64 x.w)/\Y.cell? ⟨bx,0,none⟩=some (.int .i64 x.op)/\Y.cell? ⟨Cb,0,none⟩=some (.pointer (some ⟨Bb,0,none⟩))) w5 from⟨((HM2.out.up HU4.out).up k.up).cc,((HM2.out.up HU4.out).up k.up).cx 4 _ rfl,((HM2.out.up HU4.out).up k.up).cx 1 _ rfl,((HM2.out.up HU4.out).up k.up).cx 0 _ rfl,((HC2.out.up HU4.out).up k.up).cb.2.2⟩);clear k HA;refine hKK.out _ _ (HS5.out) (fun hHh=>?_);clear hKK KK
 try simp only[Act.put,yL]
 refine tK 8 ?_;refine wpAnyH_done (by kernel_rfl) ?_ _;go_wp2;go_ret;obtain⟨v5,b5⟩:=Hk.out.bu;exact⟨A5,c5,tg5,v5,rfl,b5,HU2.out.trans (HU4.out.trans Hk.out.up),Hk.out.wd' rfl⟩
theorem aUb(h:NoI w B0 Bb Mb Cb Wb n tg vc b vars words x Aa)(hop:x.op=14)(hi9:x.imm<=9)(hal:x.args.length=2){m:Nat}(hm1:1<=m)(hm2:m<=64)(hl0:(C.arg words x 0).length=m)(hl1:(C.arg words x 1).length=m):
 Calls prog 70 #[.pointer (some ⟨Cb,0,none⟩),ndV x Aa ca] w (aCv w B0 Bb Mb tg ([(C.cmpC x.imm (C.arg words x 0) (C.arg words x 1) b).1],(C.cmpC x.imm (C.arg words x 0) (C.arg words x 1) b).2)):=by
 have H:=kH h;obtain⟨W2,hW2⟩:∃W2,W2=(w.alloc (.cells #[.pointer (some ⟨Cb,0,none⟩)] 62)).alloc (.cells #[.int .i64 x.op, .int .i64 x.w, .int .i64 x.fl, .slice Aa x.args.length ca, .int .u32 x.imm] 56):=⟨_,rfl⟩;have hb2:Below w.heap.size w W2:=by rw[hW2];exact(al0).alloc (by simp) _
 have HU2:=kH (h.b.up hb2);have Hb2:=kH hb2;have HB2:=kH (h.b.below hb2);have HC2:=kH (h.c.up HU2.out);obtain⟨bc,hbc⟩:∃c,w.heap.size=c:=⟨_,rfl⟩;obtain⟨bx,hbx⟩:∃c,bc+1=c:=⟨_,rfl⟩;have HM2:Hid (NdM W2 tg bc bx Cb x Aa ca):=kH ⟨by
  rw[hW2,<-hbc];exact aA1 (heap_alloc_new w _) _,by
  rw[hW2,<-hbx,<-hbc];have:=heap_alloc_new (w.alloc (.cells #[.pointer (some ⟨Cb,0,none⟩)] 62)) (.cells #[.int .i64 x.op, .int .i64 x.w, .int .i64 x.fl, .slice Aa x.args.length ca, .int .u32 x.imm] 56);rw[World.size_alloc]at this;exact this,by rw[<-hbc];exact h.b.none_ (zBJ _),by rw[<-hbx,<-hbc];exact h.b.none_ (Nat.le_succ _)⟩
 have k0:=HM2.out.cx 0 _ rfl;have k1:=HM2.out.cx 1 _ rfl;have k4:=HM2.out.cx 4 _ rfl;have kc:=HM2.out.cc;have Hw:=kH (And.intro hl0 hl1);have Hal:=kH hal;have Hud:=kH (HB2.out.up ((Below.refl _ W2).drew));have HBd:=kH (HB2.out.dr ((Dr.refl _).drew));obtain⟨A0,c0,hw0,hc0⟩:=h.call (HC2.out.up Hud.out) (HM2.out.up Hud.out) ((HU2.out.trans Hud.out).bl) (i:=0) (by omega);rw[hl0]at hc0;rw[show((0:Nat):Int)=0 from rfl]at hc0;have Hw0:=kH hw0;have HC0:=kH hc0;have hi0:=h.i0.1;rw[hop]at k0;clear hl0 hl1 hal hw0 hc0;rw[hop]at hW2;have HW2:=kH hW2;have Hbb:=kH (And.intro hbc hbx);unfold ndV;clear h hb2 hW2 hbc hbx
 go_enter func70,ntmps70
 go_upto_region 2 with(fail)
 rw[<-HW2.out,Hbb.out.1,Hbb.out.2];clear HW2 Hbb
 go_upto_region 15 with(fail)
 refine wp_region_held_drew (S:=fun Y:World=>Y.cell? ⟨bc,0,none⟩=some (.pointer (some ⟨Cb,0,none⟩))/\Y.cell? ⟨bx,4,none⟩=some (.int .u32 x.imm)/\Y.cell? ⟨bx,1,none⟩=some (.int .i64 x.w)/\Y.cell? ⟨bx,0,none⟩=some (.int .i64 14)/\Y.cell? ⟨Cb,0,none⟩=some (.pointer (some ⟨Bb,0,none⟩))) (by kernel_rfl) (⟨kc,k4,k1,k0,HC2.out.cb.2.2⟩) (fun hHh=>?_);refine tK 0 ?_;refine tK 1 ?_;refine tK 2 ?_;refine tK 3 ?_;refine tK 5 ?_;refine rd 4 (fun KK hKK=>?_);clear hHh;go_simp;refine HC0.out.mono ?_;rintro e w3 ⟨rfl,hdr⟩;have hb:=hdr.below W2.drew.heap.size;have hu:=HBd.out.up hb;have HB3:=kH (HBd.out.below hb);have HU3:=kH (Hud.out.trans hu);have HW3:=kH (Hw0.out.up hu);obtain⟨A1,c1,hw1,hc1⟩:=H.out.call (HC2.out.up HU3.out) (HM2.out.up HU3.out) ((HU2.out.trans HU3.out).bl) (i:=1) (by rw[Hal.out];decide);rw[Hw.out.2]at hc1;rw[show((1:Nat):Int)=1 from rfl]at hc1;have Hw1:=kH hw1;have HC1:=kH hc1;have HS3:=kH (show(fun Y:World=>Y.cell? ⟨bc,0,none⟩=some (.pointer (some ⟨Cb,0,none⟩))/\Y.cell? ⟨bx,4,none⟩=some (.int .u32 x.imm)/\Y.cell? ⟨bx,1,none⟩=some (.int .i64 x.w)/\Y.cell? ⟨bx,0,none⟩=some (.int .i64 14)/\Y.cell? ⟨Cb,0,none⟩=some (.pointer (some ⟨Bb,0,none⟩))) w3 from⟨(HM2.out.up HU3.out).cc,(HM2.out.up HU3.out).cx 4 _ rfl,(HM2.out.up HU3.out).cx 1 _ rfl,by rw[<-hop];exact(HM2.out.up HU3.out).cx 0 _ rfl,(HC2.out.up HU3.out).cb.2.2⟩);clear hb hu hdr hw1 hc1 HC0;refine hKK.out _ _ (HS3.out) (fun hHh=>?_);clear hKK KK
 try simp only[Act.put,yL]
 refine rd 6 (fun KK hKK=>?_);clear hHh;go_simp;refine HC1.out.mono ?_;rintro e w4 ⟨rfl,hdr⟩;have hb:=hdr.below w3.heap.size;have hu:=HB3.out.up hb;have HU4:=kH (HU3.out.trans hu);have hA:=aSp (p:=x.imm) (HB3.out.below hb) (HC2.out.up HU4.out).cb (HW3.out.up hu) (Hw1.out.up hu) (H.out.arg (i:=0) (by rw[Hal.out];decide)).2.2 (H.out.arg (i:=1) (by rw[Hal.out];decide)).2.2 (by rw[Hw.out.1,Hw.out.2]) (by rw[Hw.out.1];exact hm1) (by rw[Hw.out.1];exact hm2) hi0 hi9;rw[Hw.out.1,Hw.out.2]at hA;have HA:=kH hA;have HS4:=kH (show(fun Y:World=>Y.cell? ⟨bc,0,none⟩=some (.pointer (some ⟨Cb,0,none⟩))/\Y.cell? ⟨bx,4,none⟩=some (.int .u32 x.imm)/\Y.cell? ⟨bx,1,none⟩=some (.int .i64 x.w)/\Y.cell? ⟨bx,0,none⟩=some (.int .i64 14)/\Y.cell? ⟨Cb,0,none⟩=some (.pointer (some ⟨Bb,0,none⟩))) w4 from⟨(HM2.out.up HU4.out).cc,(HM2.out.up HU4.out).cx 4 _ rfl,(HM2.out.up HU4.out).cx 1 _ rfl,by rw[<-hop];exact(HM2.out.up HU4.out).cx 0 _ rfl,(HC2.out.up HU4.out).cb.2.2⟩);clear hb hu hdr hA HC1;refine hKK.out _ _ (HS4.out) (fun hHh=>?_);clear hKK KK
 try simp only[Act.put,yL]
 refine rd 7 (fun KK hKK=>?_);clear hHh;go_simp;refine HA.out.mono ?_;rintro e w5 ⟨rfl,tg5,v5,b5,u5⟩;have Hk:=kH (And.intro b5 u5);obtain⟨r,hr⟩:∃r,C.cmpC x.imm (C.arg words x 0) (C.arg words x 1) b=r:=⟨_,rfl⟩;rw[hr]at Hk⊢;have Hr:=kH hr;have HS5:=kH (show(fun Y:World=>Y.cell? ⟨bc,0,none⟩=some (.pointer (some ⟨Cb,0,none⟩))/\Y.cell? ⟨bx,4,none⟩=some (.int .u32 x.imm)/\Y.cell? ⟨bx,1,none⟩=some (.int .i64 x.w)/\Y.cell? ⟨bx,0,none⟩=some (.int .i64 14)/\Y.cell? ⟨Cb,0,none⟩=some (.pointer (some ⟨Bb,0,none⟩))) w5 from⟨((HM2.out.up HU4.out).up u5).cc,((HM2.out.up HU4.out).up u5).cx 4 _ rfl,((HM2.out.up HU4.out).up u5).cx 1 _ rfl,by rw[<-hop];exact((HM2.out.up HU4.out).up u5).cx 0 _ rfl,((HC2.out.up HU4.out).up u5).cb.2.2⟩);clear b5 u5 hr HA;refine hKK.out _ _ (HS5.out) (fun hHh=>?_);clear hKK KK
 try simp only[Act.put,yL]
 refine rd 8 (fun KK hKK=>?_);clear hHh;go_simp;obtain⟨w6,hw6⟩:∃w6,w6=w5.alloc (.cells #[.int .i64 r.1] 3):=⟨_,rfl⟩;have hb6:Below w5.heap.size w5 w6:=by rw[hw6];exact al0
 have hu6:=Hk.out.1.up hb6;have HU6:=kH hu6;have HB6:=kH (Hk.out.1.below hb6);have HN6:=kH (show OwnAt w6 3 1 (.slice (some ⟨w5.heap.size,0,none⟩) 1 1) 1 [.int .i64 r.1]from by rw[hw6];exact OwnAt.of_new w5 #[.int .i64 r.1] 1 (by simp) (by decide));have HT6:=kH (Hk.out.1.none_ (zBJ w5.heap.size));have HS6:=kH (show(fun Y:World=>Y.cell? ⟨bc,0,none⟩=some (.pointer (some ⟨Cb,0,none⟩))/\Y.cell? ⟨bx,4,none⟩=some (.int .u32 x.imm)/\Y.cell? ⟨bx,1,none⟩=some (.int .i64 x.w)/\Y.cell? ⟨bx,0,none⟩=some (.int .i64 14)/\Y.cell? ⟨Cb,0,none⟩=some (.pointer (some ⟨Bb,0,none⟩))) w6 from⟨(((HM2.out.up HU4.out).up Hk.out.2).up hu6).cc,(((HM2.out.up HU4.out).up Hk.out.2).up hu6).cx 4 _ rfl,(((HM2.out.up HU4.out).up Hk.out.2).up hu6).cx 1 _ rfl,by rw[<-hop];exact(((HM2.out.up HU4.out).up Hk.out.2).up hu6).cx 0 _ rfl,(((HC2.out.up HU4.out).up Hk.out.2).up hu6).cb.2.2⟩);rw[<-hw6];clear hb6 hu6 hw6;refine hKK.out _ _ (HS6.out) (fun hHh=>?_);clear hKK KK
 try simp only[Act.put,yL]
 refine tK 9 ?_;refine wpAnyH_done (by kernel_rfl) ?_ _;go_wp2;go_ret;rw[Hr.out];refine aCv.of (l:= [r.1]) rfl HB6.out (HU2.out.trans (HU4.out.trans (Hk.out.2.trans HU6.out))) ⟨HN6.out,fun g hg=>?_⟩;have e:w5.heap.size=g:=by simpa[Value.ownBlock]using hg
 rw[<-e];exact HT6.out
theorem aUc(h:NoI w B0 Bb Mb Cb Wb n tg vc b vars words x Aa)(hop:x.op=15)(hal:x.args.length=3){m:Nat}(hm2:m<=64)(hl0:(C.arg words x 0).length=1)(hl1:(C.arg words x 1).length=m)(hl2:(C.arg words x 2).length=m):
 Calls prog 70 #[.pointer (some ⟨Cb,0,none⟩),ndV x Aa ca] w (aCv w B0 Bb Mb tg (C.picks ((C.arg words x 0).getD 0 0) (C.arg words x 1) (C.arg words x 2) b)):=by
 have H:=kH h;obtain⟨W2,hW2⟩:∃W2,W2=(w.alloc (.cells #[.pointer (some ⟨Cb,0,none⟩)] 62)).alloc (.cells #[.int .i64 x.op, .int .i64 x.w, .int .i64 x.fl, .slice Aa x.args.length ca, .int .u32 x.imm] 56):=⟨_,rfl⟩;have hb2:Below w.heap.size w W2:=by rw[hW2];exact(al0).alloc (by simp) _
 have HU2:=kH (h.b.up hb2);have Hb2:=kH hb2;have HB2:=kH (h.b.below hb2);have HC2:=kH (h.c.up HU2.out);obtain⟨bc,hbc⟩:∃c,w.heap.size=c:=⟨_,rfl⟩;obtain⟨bx,hbx⟩:∃c,bc+1=c:=⟨_,rfl⟩;have HM2:Hid (NdM W2 tg bc bx Cb x Aa ca):=kH ⟨by
  rw[hW2,<-hbc];exact aA1 (heap_alloc_new w _) _,by
  rw[hW2,<-hbx,<-hbc];have:=heap_alloc_new (w.alloc (.cells #[.pointer (some ⟨Cb,0,none⟩)] 62)) (.cells #[.int .i64 x.op, .int .i64 x.w, .int .i64 x.fl, .slice Aa x.args.length ca, .int .u32 x.imm] 56);rw[World.size_alloc]at this;exact this,by rw[<-hbc];exact h.b.none_ (zBJ _),by rw[<-hbx,<-hbc];exact h.b.none_ (Nat.le_succ _)⟩
 have k0:=HM2.out.cx 0 _ rfl;have k1:=HM2.out.cx 1 _ rfl;have k4:=HM2.out.cx 4 _ rfl;have kc:=HM2.out.cc;have Hw:=kH (And.intro hl0 (And.intro hl1 hl2));have Hal:=kH hal;have Hud:=kH (HB2.out.up ((Below.refl _ W2).drew));have HBd:=kH (HB2.out.dr ((Dr.refl _).drew));obtain⟨A0,c0,hw0,hc0⟩:=h.call (HC2.out.up Hud.out) (HM2.out.up Hud.out) ((HU2.out.trans Hud.out).bl) (i:=0) (by omega);rw[hl0]at hc0;rw[show((0:Nat):Int)=0 from rfl]at hc0;obtain⟨g0,o0,rfl,e0⟩:=hw0.cell (i:=0) (by omega);obtain⟨lt,hlt⟩:∃l,(C.arg words x 0).getD 0 0=l:=⟨_,rfl⟩;have ilt:C.Ib lt:=by rw[<-hlt];exact wb_at (h.arg (i:=0) (by omega)).2.2 (by omega)
 rw[hlt]at e0⊢;rw[zBI]at e0;have Hw0:=kH hw0;have HC0:=kH hc0;have Hlt:=kH (And.intro hlt ilt);have he0:W2.cell? ⟨g0,o0,none⟩=some (.int .i64 lt):=e0;rw[hop]at k0;clear hl0 hl1 hl2 hal hw0 hc0 hlt ilt e0;rw[hop]at hW2;have HW2:=kH hW2;have Hbb:=kH (And.intro hbc hbx);unfold ndV;clear h hb2 hW2 hbc hbx
 go_enter func70,ntmps70
 go_upto_region 2 with(fail)
 rw[<-HW2.out,Hbb.out.1,Hbb.out.2];clear HW2 Hbb;have Hg0:=kH (show∀(X:World) (tgX:TgF),Up B0 tg W2 tgX X->X.cell? ⟨g0,o0,none⟩=some (.int .i64 lt)from fun X tgX u=>(aBn (u.un.no g0 (Hw0.out.1.lt g0 rfl) (Hw0.out.2 g0 rfl)).2).trans he0)
 go_upto_region 17 with(fail)
 refine wp_region_held_drew (S:=fun Y:World=>Y.cell? ⟨bc,0,none⟩=some (.pointer (some ⟨Cb,0,none⟩))/\Y.cell? ⟨bx,4,none⟩=some (.int .u32 x.imm)/\Y.cell? ⟨bx,1,none⟩=some (.int .i64 x.w)/\Y.cell? ⟨bx,0,none⟩=some (.int .i64 15)/\Y.cell? ⟨Cb,0,none⟩=some (.pointer (some ⟨Bb,0,none⟩))/\Y.cell? ⟨g0,o0,none⟩=some (.int .i64 lt)) (by kernel_rfl) (⟨kc,k4,k1,k0,HC2.out.cb.2.2,he0⟩) (fun hHh=>?_);refine tK 0 ?_;refine tK 1 ?_;refine tK 2 ?_;refine tK 3 ?_;refine tK 4 ?_;refine tK 8 ?_;refine tK 10 ?_;refine rd 5 (fun KK hKK=>?_);clear hHh;go_simp;refine HC0.out.mono ?_;rintro e w3 ⟨rfl,hdr⟩;have hb:=hdr.below W2.drew.heap.size;have hu:=HBd.out.up hb;have HB3:=kH (HBd.out.below hb);have HU3:=kH (Hud.out.trans hu);obtain⟨A1,c1,hw1,hc1⟩:=H.out.call (HC2.out.up HU3.out) (HM2.out.up HU3.out) ((HU2.out.trans HU3.out).bl) (i:=1) (by rw[Hal.out];decide);rw[Hw.out.2.1]at hc1;rw[show((1:Nat):Int)=1 from rfl]at hc1;have Hw1:=kH hw1;have HC1:=kH hc1;have HS3:=kH (show(fun Y:World=>Y.cell? ⟨bc,0,none⟩=some (.pointer (some ⟨Cb,0,none⟩))/\Y.cell? ⟨bx,4,none⟩=some (.int .u32 x.imm)/\Y.cell? ⟨bx,1,none⟩=some (.int .i64 x.w)/\Y.cell? ⟨bx,0,none⟩=some (.int .i64 15)/\Y.cell? ⟨Cb,0,none⟩=some (.pointer (some ⟨Bb,0,none⟩))/\Y.cell? ⟨g0,o0,none⟩=some (.int .i64 lt)) w3 from⟨(HM2.out.up HU3.out).cc,(HM2.out.up HU3.out).cx 4 _ rfl,(HM2.out.up HU3.out).cx 1 _ rfl,by rw[<-hop];exact(HM2.out.up HU3.out).cx 0 _ rfl,(HC2.out.up HU3.out).cb.2.2,Hg0.out _ _ HU3.out⟩);clear hb hu hdr hw1 hc1 HC0;refine hKK.out _ _ (HS3.out) (fun hHh=>?_);clear hKK KK
 try simp only[Act.put,yL]
 refine tK 6 ?_;refine tK 7 ?_;refine rd 9 (fun KK hKK=>?_);clear hHh;go_simp;refine HC1.out.mono ?_;rintro e w4 ⟨rfl,hdr⟩;have hb:=hdr.below w3.heap.size;have hu:=HB3.out.up hb;have HB4:=kH (HB3.out.below hb);have HU4:=kH (HU3.out.trans hu);have HW4:=kH (Hw1.out.up hu);obtain⟨A2,c2,hw2,hc2⟩:=H.out.call (HC2.out.up HU4.out) (HM2.out.up HU4.out) ((HU2.out.trans HU4.out).bl) (i:=2) (by rw[Hal.out];decide);rw[Hw.out.2.2]at hc2;rw[show((2:Nat):Int)=2 from rfl]at hc2;have Hw2:=kH hw2;have HC2':=kH hc2;have HS4:=kH (show(fun Y:World=>Y.cell? ⟨bc,0,none⟩=some (.pointer (some ⟨Cb,0,none⟩))/\Y.cell? ⟨bx,4,none⟩=some (.int .u32 x.imm)/\Y.cell? ⟨bx,1,none⟩=some (.int .i64 x.w)/\Y.cell? ⟨bx,0,none⟩=some (.int .i64 15)/\Y.cell? ⟨Cb,0,none⟩=some (.pointer (some ⟨Bb,0,none⟩))/\Y.cell? ⟨g0,o0,none⟩=some (.int .i64 lt)) w4 from⟨(HM2.out.up HU4.out).cc,(HM2.out.up HU4.out).cx 4 _ rfl,(HM2.out.up HU4.out).cx 1 _ rfl,by rw[<-hop];exact(HM2.out.up HU4.out).cx 0 _ rfl,(HC2.out.up HU4.out).cb.2.2,Hg0.out _ _ HU4.out⟩);clear hb hu hdr hw2 hc2 HC1;refine hKK.out _ _ (HS4.out) (fun hHh=>?_);clear hKK KK
 try simp only[Act.put,yL]
 refine rd 11 (fun KK hKK=>?_);clear hHh;go_simp;refine HC2'.out.mono ?_;rintro e w5 ⟨rfl,hdr⟩;have hb:=hdr.below w4.heap.size;have hu:=HB4.out.up hb;have HU5:=kH (HU4.out.trans hu);have hA:=aEm (c:=lt) (HB4.out.below hb) Hlt.out.2 (HW4.out.up hu) (Hw2.out.up hu) (H.out.arg (i:=1) (by rw[Hal.out];decide)).2.2 (H.out.arg (i:=2) (by rw[Hal.out];decide)).2.2 (by rw[Hw.out.2.1,Hw.out.2.2]) (by rw[Hw.out.2.1];omega);rw[Hw.out.2.1,Hw.out.2.2]at hA;have HA:=kH hA;have HS5:=kH (show(fun Y:World=>Y.cell? ⟨bc,0,none⟩=some (.pointer (some ⟨Cb,0,none⟩))/\Y.cell? ⟨bx,4,none⟩=some (.int .u32 x.imm)/\Y.cell? ⟨bx,1,none⟩=some (.int .i64 x.w)/\Y.cell? ⟨bx,0,none⟩=some (.int .i64 15)/\Y.cell? ⟨Cb,0,none⟩=some (.pointer (some ⟨Bb,0,none⟩))/\Y.cell? ⟨g0,o0,none⟩=some (.int .i64 lt)) w5 from⟨(HM2.out.up HU5.out).cc,(HM2.out.up HU5.out).cx 4 _ rfl,(HM2.out.up HU5.out).cx 1 _ rfl,by rw[<-hop];exact(HM2.out.up HU5.out).cx 0 _ rfl,(HC2.out.up HU5.out).cb.2.2,Hg0.out _ _ HU5.out⟩);clear hb hu hdr hA HC2';refine hKK.out _ _ (HS5.out) (fun hHh=>?_);clear hKK KK
 try simp only[Act.put,yL]
 refine rd 12 (fun KK hKK=>?_);clear hHh;go_simp;refine HA.out.mono ?_;rintro e w6 ⟨A5,c5,tg5,rfl,k⟩;have Hk:=kH k;have HS6:=kH (show(fun Y:World=>Y.cell? ⟨bc,0,none⟩=some (.pointer (some ⟨Cb,0,none⟩))/\Y.cell? ⟨bx,4,none⟩=some (.int .u32 x.imm)/\Y.cell? ⟨bx,1,none⟩=some (.int .i64 x.w)/\Y.cell? ⟨bx,0,none⟩=some (.int .i64 15)/\Y.cell? ⟨Cb,0,none⟩=some (.pointer (some ⟨Bb,0,none⟩))/\Y.cell? ⟨g0,o0,none⟩=some (.int .i64 lt)) w6 from⟨(HM2.out.up (HU5.out.trans k.up)).cc,(HM2.out.up (HU5.out.trans k.up)).cx 4 _ rfl,(HM2.out.up (HU5.out.trans k.up)).cx 1 _ rfl,by rw[<-hop];exact(HM2.out.up (HU5.out.trans k.up)).cx 0 _ rfl,(HC2.out.up (HU5.out.trans k.up)).cb.2.2,Hg0.out _ _ (HU5.out.trans k.up)⟩);clear k HA;refine hKK.out _ _ (HS6.out) (fun hHh=>?_);clear hKK KK
 try simp only[Act.put,yL]
 refine tK 13 ?_;refine wpAnyH_done (by kernel_rfl) ?_ _;go_wp2;go_ret;obtain⟨v5,b5⟩:=Hk.out.bu;exact⟨A5,c5,tg5,v5,rfl,b5,HU2.out.trans (HU5.out.trans Hk.out.up),Hk.out.wd' rfl⟩
theorem aUd(h:NoI w B0 Bb Mb Cb Wb n tg vc b vars words x Aa)(hop:x.op=18)(hal:x.args.length=1){m m2:Nat}(hm:x.w=(m:Int))(hl0:(C.arg words x 0).length=m2)(hlt:m<m2):
 Calls prog 70 #[.pointer (some ⟨Cb,0,none⟩),ndV x Aa ca] w (aCv w B0 Bb Mb tg ((C.arg words x 0).take m,b)):=by
 have H:=kH h;obtain⟨W2,hW2⟩:∃W2,W2=(w.alloc (.cells #[.pointer (some ⟨Cb,0,none⟩)] 62)).alloc (.cells #[.int .i64 x.op, .int .i64 x.w, .int .i64 x.fl, .slice Aa x.args.length ca, .int .u32 x.imm] 56):=⟨_,rfl⟩;have hb2:Below w.heap.size w W2:=by rw[hW2];exact(al0).alloc (by simp) _
 have HU2:=kH (h.b.up hb2);have Hb2:=kH hb2;have HB2:=kH (h.b.below hb2);have HC2:=kH (h.c.up HU2.out);obtain⟨bc,hbc⟩:∃c,w.heap.size=c:=⟨_,rfl⟩;obtain⟨bx,hbx⟩:∃c,bc+1=c:=⟨_,rfl⟩;have HM2:Hid (NdM W2 tg bc bx Cb x Aa ca):=kH ⟨by
  rw[hW2,<-hbc];exact aA1 (heap_alloc_new w _) _,by
  rw[hW2,<-hbx,<-hbc];have:=heap_alloc_new (w.alloc (.cells #[.pointer (some ⟨Cb,0,none⟩)] 62)) (.cells #[.int .i64 x.op, .int .i64 x.w, .int .i64 x.fl, .slice Aa x.args.length ca, .int .u32 x.imm] 56);rw[World.size_alloc]at this;exact this,by rw[<-hbc];exact h.b.none_ (zBJ _),by rw[<-hbx,<-hbc];exact h.b.none_ (Nat.le_succ _)⟩
 have k0:=HM2.out.cx 0 _ rfl;have k1:=HM2.out.cx 1 _ rfl;have k4:=HM2.out.cx 4 _ rfl;have kc:=HM2.out.cc;have Hw:=kH hl0;have Hud:=kH (HB2.out.up ((Below.refl _ W2).drew));have HBd:=kH (HB2.out.dr ((Dr.refl _).drew));obtain⟨A0,c0,hw0,hc0⟩:=h.call (HC2.out.up Hud.out) (HM2.out.up Hud.out) ((HU2.out.trans Hud.out).bl) (i:=0) (by omega);rw[hl0]at hc0;rw[show((0:Nat):Int)=0 from rfl]at hc0;obtain⟨g0,o0,rfl,e0⟩:=hw0.cell (i:=0) (by omega);obtain⟨g9,o9,c9,q1,_,_,hcc,_⟩:=aAg hw0.1 (aBx (l:=C.arg words x 0) (i:=0) (by omega));injection q1 with q1 _ q6
 injection q1 with q1
 injection q1 with q4 q5
 subst q4 q5 q6;rw[hl0]at hcc;have hmc:m<=c0:=by omega
 have hm0:1<=m:=by have:=h.w0;omega
 have Hw0:=kH hw0;have HC0:=kH hc0;rw[hop]at k0;rw[hm]at k1;clear hl0 hal hw0 hc0 e0 hcc;rw[hop,hm]at hW2;have HW2:=kH hW2;have Hbb:=kH (And.intro hbc hbx);unfold ndV;clear h hb2 hW2 hbc hbx
 go_enter func70,ntmps70
 go_upto_region 2 with(fail)
 rw[<-HW2.out,Hbb.out.1,Hbb.out.2];clear HW2 Hbb
 go_upto_region 24 with(fail)
 refine wp_region_held_drew (S:=fun Y:World=>Y.cell? ⟨bx,1,none⟩=some (.int .i64 (m:Int))/\True) (by kernel_rfl) (⟨k1,trivial⟩) (fun hHh=>?_);refine tK 0 ?_;refine tK 2 ?_;refine tK 3 ?_;refine tK 4 ?_;refine tK 5 ?_;refine rd 1 (fun KK hKK=>?_);clear hHh;go_simp;refine HC0.out.mono ?_;rintro e w3 ⟨rfl,hdr⟩;have hb:=hdr.below W2.drew.heap.size;have hu:=HBd.out.up hb;have HB3:=kH (HBd.out.below hb);have HU3:=kH (Hud.out.trans hu);have HW3:=kH (Hw0.out.up hu);have HS3:=kH (show(fun Y:World=>Y.cell? ⟨bx,1,none⟩=some (.int .i64 (m:Int))/\True) w3 from⟨by rw[<-hm];exact(HM2.out.up HU3.out).cx 1 _ rfl,trivial⟩);clear hb hu hdr HC0;refine hKK.out _ _ (HS3.out) (fun hHh=>?_);clear hKK KK
 try simp only[Act.put,yL]
 refine tK 6 ?_;refine tK 7 ?_;refine wpAnyH_done (by kernel_rfl) ?_ _;go_wp2;go_ret;have hlen:((C.arg words x 0).take m).length=m:=by rw[zAZ,Hw.out];omega
 have hown:OwnAt w3 3 1 (.slice (some ⟨g0,o0,none⟩) m2 c0) m2 (siv (C.arg words x 0)):=by
  have h0:=HW3.out.1;rw[Hw.out]at h0;exact h0
 refine aCv.of hlen HB3.out (HU2.out.trans HU3.out) ⟨?_,fun g hg=>HW3.out.2 g (by have e:g0=g:=(by simpa[Value.ownBlock]using hg);rw[<-e];rfl)⟩;rw[hlen,aMm];exact aZc hown (by omega)
theorem aXf(h:NoI w B0 Bb Mb Cb Wb n tg vc b vars words x Aa)(hop:x.op=0){m:Nat}(hm:x.w=(m:Int)):
 Calls prog 70 #[.pointer (some ⟨Cb,0,none⟩),ndV x Aa ca] w (aCv w B0 Bb Mb tg (C.aB6 m x.imm,b)):=by
 have H:=kH h;obtain⟨W2,hW2⟩:∃W2,W2=(w.alloc (.cells #[.pointer (some ⟨Cb,0,none⟩)] 62)).alloc (.cells #[.int .i64 x.op, .int .i64 x.w, .int .i64 x.fl, .slice Aa x.args.length ca, .int .u32 x.imm] 56):=⟨_,rfl⟩;have hb2:Below w.heap.size w W2:=by rw[hW2];exact(al0).alloc (by simp) _
 have HU2:=kH (h.b.up hb2);have Hb2:=kH hb2;have HB2:=kH (h.b.below hb2);have HC2:=kH (h.c.up HU2.out);obtain⟨bc,hbc⟩:∃c,w.heap.size=c:=⟨_,rfl⟩;obtain⟨bx,hbx⟩:∃c,bc+1=c:=⟨_,rfl⟩;have HM2:Hid (NdM W2 tg bc bx Cb x Aa ca):=kH ⟨by
  rw[hW2,<-hbc];exact aA1 (heap_alloc_new w _) _,by
  rw[hW2,<-hbx,<-hbc];have:=heap_alloc_new (w.alloc (.cells #[.pointer (some ⟨Cb,0,none⟩)] 62)) (.cells #[.int .i64 x.op, .int .i64 x.w, .int .i64 x.fl, .slice Aa x.args.length ca, .int .u32 x.imm] 56);rw[World.size_alloc]at this;exact this,by rw[<-hbc];exact h.b.none_ (zBJ _),by rw[<-hbx,<-hbc];exact h.b.none_ (Nat.le_succ _)⟩
 have k0:=HM2.out.cx 0 _ rfl;have k1:=HM2.out.cx 1 _ rfl;have k4:=HM2.out.cx 4 _ rfl;have kc:=HM2.out.cc;have hm1:1<=m/\m<=32:=by have:=h.w0;omega
 have hi0:=h.i0;have HF:=kH (aD8 (w:=W2) (x:= -1) (n:=m) hm1.1 (by omega));rw[hop]at k0;rw[hm]at k1;have Hrl:=kH (aDg m (-1));have hbx2:bx<W2.heap.size:=(gA HM2.out.rx).1;rw[hop,hm]at hW2;have HW2:=kH hW2;have Hbb:=kH (And.intro hbc hbx);unfold ndV;clear h hb2 hW2 hbc hbx
 go_enter func70,ntmps70
 go_upto_region 2 with(fail)
 rw[<-HW2.out,Hbb.out.1,Hbb.out.2];clear HW2 Hbb
 go_wp2_with fail
 refine HF.out.mono ?_;rintro e w3 ⟨A3,c3,rfl,q1,q2,q3⟩;rw[Hrl.out]at q2 q3⊢;obtain⟨g3,o3,c3',p1,_,_⟩:=aAg q2 (aBx (l:=C.rep m (-1)) (i:=0) (by rw[Hrl.out];omega));injection p1 with p1 _ p2
 subst p1 p2;have hg3:=q3 g3 rfl;have H0:=kH (show Below W2.heap.size W2 w3/\OwnAt w3 3 1 (.slice (some ⟨g3,o3,none⟩) m c3) m (siv (cwTo m x.imm 0))from⟨q1,by rw[aZd];exact q2⟩);clear q1 q2 q3 HF k0 k1;go_wp2
 go_loopw [19] (fun i wr=>∃k:Nat,k<=m/\i= .int .i64 (k:Int)/\Hid (Below W2.heap.size W2 wr/\OwnAt wr 3 1 (.slice (some ⟨g3,o3,none⟩) m c3) m (siv (cwTo m x.imm k)))) (fun i _=>m- (intOf i).toNat)
 case atStart=>exact⟨0,zBL _,rfl,H0⟩
 case round=>
  obtain⟨k,hk,rfl,HS⟩:=hrel
  by_cases hlt:k<m
  ·have k4':=(HS.out.1.cell (p:=⟨bx,4,none⟩) hbx2).trans k4;obtain⟨g9,o9,c9,p1,p2,p3,_⟩:=aAg HS.out.2 (aBx (l:=cwTo m x.imm k) (i:=k) (by rw[bBx];exact hlt));injection p1 with p1 _ p6
   subst p6;injection p1 with p1
   injection p1 with p4 p5
   subst p4 p5;have f3:=p3 (o3+k);have hk64:k<64:=by omega
   clear p3 k4;have hbi:=aOv (k:=k) hi0.1 hi0.2;cases htb:x.imm.toNat.testBit k
   ·rw[htb]at hbi;have Hst:=kH (bD4 (w:=m) htb);clear htb;go_wp2;go_roundw
    case rel=>exact⟨k+1,by omega,by go_num,kH ⟨HS.out.1,by rw[Hst.out];exact HS.out.2⟩⟩
    case measure=>simp[intOf];omega
   ·rw[htb]at hbi;have Hst:=kH (bBz (w:=m) htb hlt);have Hput:=kH (aG8 HS.out.2 hlt (.int .i64 1));have Hbl:=kH (HS.out.1.setCell (p:=⟨g3,o3+k,none⟩) (by exact hg3) (.int .i64 1));clear htb;go_wp2;go_roundw
    case rel=>exact⟨k+1,by omega,by go_num,kH ⟨Hbl.out,by rw[Hst.out,aDd];exact Hput.out⟩⟩
    case measure=>simp[intOf];omega
  ·have hkm:k=m:=by omega
   subst hkm;go_wp2;go_ret;have hbw:=HB2.out.below HS.out.1;have hl:(C.aB6 k x.imm).length=k:=by simp[C.aB6]
   refine aCv.of hl hbw (HU2.out.trans (HB2.out.up HS.out.1)) ⟨?_,fun g hg=>?_⟩
   ·rw[hl,<-bBy];exact HS.out.2
   ·have e:g3=g:=by simpa[Value.ownBlock]using hg
    rw[<-e];exact HB2.out.none_ hg3
theorem aUe(h:NoI w B0 Bb Mb Cb Wb n tg vc b vars words x Aa)(hop:x.op=16)(hal:x.args.length=1){m m2:Nat}(hm:x.w=(m:Int))(hl0:(C.arg words x 0).length=m2)(hm2:1<=m2)(hlt:m2<m):
 Calls prog 70 #[.pointer (some ⟨Cb,0,none⟩),ndV x Aa ca] w (aCv w B0 Bb Mb tg (C.arg words x 0 ++ C.rep (m-m2) (-1),b)):=by
 have H:=kH h;obtain⟨W2,hW2⟩:∃W2,W2=(w.alloc (.cells #[.pointer (some ⟨Cb,0,none⟩)] 62)).alloc (.cells #[.int .i64 x.op, .int .i64 x.w, .int .i64 x.fl, .slice Aa x.args.length ca, .int .u32 x.imm] 56):=⟨_,rfl⟩;have hb2:Below w.heap.size w W2:=by rw[hW2];exact(al0).alloc (by simp) _
 have HU2:=kH (h.b.up hb2);have Hb2:=kH hb2;have HB2:=kH (h.b.below hb2);have HC2:=kH (h.c.up HU2.out);obtain⟨bc,hbc⟩:∃c,w.heap.size=c:=⟨_,rfl⟩;obtain⟨bx,hbx⟩:∃c,bc+1=c:=⟨_,rfl⟩;have HM2:Hid (NdM W2 tg bc bx Cb x Aa ca):=kH ⟨by
  rw[hW2,<-hbc];exact aA1 (heap_alloc_new w _) _,by
  rw[hW2,<-hbx,<-hbc];have:=heap_alloc_new (w.alloc (.cells #[.pointer (some ⟨Cb,0,none⟩)] 62)) (.cells #[.int .i64 x.op, .int .i64 x.w, .int .i64 x.fl, .slice Aa x.args.length ca, .int .u32 x.imm] 56);rw[World.size_alloc]at this;exact this,by rw[<-hbc];exact h.b.none_ (zBJ _),by rw[<-hbx,<-hbc];exact h.b.none_ (Nat.le_succ _)⟩
 have k0:=HM2.out.cx 0 _ rfl;have k1:=HM2.out.cx 1 _ rfl;have k4:=HM2.out.cx 4 _ rfl;have kc:=HM2.out.cc;have hm32:m<=32:=by have:=h.w0;omega
 have Hw:=kH hl0;have Hud:=kH (HB2.out.up ((Below.refl _ W2).drew));have HBd:=kH (HB2.out.dr ((Dr.refl _).drew));obtain⟨q,hq⟩:∃q,m-m2=q:=⟨_,rfl⟩;have hqi:((m:Nat):Int)- ((m2:Nat):Int)=((q:Nat):Int):=by omega
 have hwq:IntKind.i64.wrap ((m:Int)- (m2:Int))=(q:Int):=by rw[hqi];exact IntWalk.i64_in _ (by omega)
 have hq1:1<=q:=by omega
 have hq32:q<=32:=by omega
 have Hq:=kH hq;have Hal:=kH hal;rw[hop]at k0;rw[hm]at k1;rw[hq];obtain⟨A0,c0,hw0,hc0⟩:=h.call (HC2.out.up Hud.out) (HM2.out.up Hud.out) ((HU2.out.trans Hud.out).bl) (i:=0) (by omega);rw[hl0]at hc0;rw[show((0:Nat):Int)=0 from rfl]at hc0;have Hw0:=kH hw0;have HC0:=kH hc0;obtain⟨ii,hi1,hz1,hs1,hy1⟩:=iinfo;have Hii:=kH (And.intro hi1 (And.intro hz1 (And.intro hs1 hy1)));have Hbx:=kH (show bx<W2.heap.size from(gA HM2.out.rx).1);have HF:=kH (fun W:World=>aD8 (w:=W) (x:= -1) (n:=q) (by omega) (by omega));have Hrl:=kH (aDg q (-1));clear hl0 hal hw0 hc0 hi1 hz1 hs1 hy1 hq hqi;rw[hop,hm]at hW2;have HW2:=kH hW2;have Hbb:=kH (And.intro hbc hbx);unfold ndV;clear h hb2 hW2 hbc hbx
 go_enter func70,ntmps70
 go_upto_region 2 with(fail)
 rw[<-HW2.out,Hbb.out.1,Hbb.out.2];clear HW2 Hbb
 go_upto_region 19 with(fail)
 refine wp_region_held_drew (S:=fun Y:World=>Y.cell? ⟨bx,1,none⟩=some (.int .i64 (m:Int))/\True) (by kernel_rfl) (⟨k1,trivial⟩) (fun hHh=>?_);refine tK 0 ?_;refine tK 3 ?_;refine tK 4 ?_;refine tK 5 ?_;refine rd 1 (fun KK hKK=>?_);clear hHh;go_simp;refine HC0.out.mono ?_;rintro e w3 ⟨rfl,hdr⟩;have hb:=hdr.below W2.drew.heap.size;have hu:=HBd.out.up hb;have HB3:=kH (HBd.out.below hb);have HU3:=kH (Hud.out.trans hu);have HL3:=kH (Hb2.out.drew.trans (hb.mono Hb2.out.drew.size));have HK:=aDl (Hw0.out.up hu) (by rw[Hw.out];omega);rw[Hw.out]at HK;have HK:=kH HK;have HS3:=kH (show(fun Y:World=>Y.cell? ⟨bx,1,none⟩=some (.int .i64 (m:Int))/\True) w3 from⟨by rw[<-hm];exact(HM2.out.up HU3.out).cx 1 _ rfl,trivial⟩);clear hb hu hdr HC0;refine hKK.out _ _ (HS3.out) (fun hHh=>?_);clear hKK KK
 try simp only[Act.put,yL]
 refine rd 2 (fun KK hKK=>?_);clear hHh;go_simp;refine HK.out.mono ?_;rintro e w4 ⟨A3,c3,rfl,p1,p2,p3⟩;rw[Hw.out]at p2 p3⊢;have hu4:=HB3.out.up p1;have HB4:=kH (HB3.out.below p1);have HU4:=kH (HU3.out.trans hu4);have hs3:W2.heap.size<=w3.heap.size:=HU3.out.un.size;have HL4:=kH (HL3.out.trans (p1.mono HL3.out.size));have HCl0:=kH (And.intro p2 (And.intro (show∀g,(Value.slice A3 m2 c3).ownBlock=some g->W2.heap.size<=g from fun g hg=>zBK hs3 (p3 g hg)) p1.size));obtain⟨A5,c5,hw5,hc5⟩:=H.out.call (HC2.out.up HU4.out) (HM2.out.up HU4.out) ((HU2.out.trans HU4.out).bl) (i:=0) (by rw[Hal.out];decide);rw[Hw.out]at hc5;rw[show((0:Nat):Int)=0 from rfl]at hc5;have HC5:=kH hc5;have HS4:=kH (show(fun Y:World=>Y.cell? ⟨bx,1,none⟩=some (.int .i64 (m:Int))/\True) w4 from⟨by rw[<-hm];exact(HM2.out.up HU4.out).cx 1 _ rfl,trivial⟩);clear p1 p2 p3 hu4 hw5 hc5 HK;refine hKK.out _ _ (HS4.out) (fun hHh=>?_);clear hKK KK
 try simp only[Act.put,yL]
 refine rd 6 (fun KK hKK=>?_);clear hHh;go_simp;refine HC5.out.mono ?_;rintro e w5 ⟨rfl,hdr⟩;have hb:=hdr.below w4.heap.size;have hu:=HB4.out.up hb;have HB5:=kH (HB4.out.below hb);have HU5:=kH (HU4.out.trans hu);have HL5:=kH (HL4.out.trans (hb.mono HL4.out.size));have HCl:=kH (show OwnAt w5 3 1 (.slice A3 m2 c3) m2 (siv (C.arg words x 0))/\(∀g,(Value.slice A3 m2 c3).ownBlock=some g->W2.heap.size<=g)/\w5.heap.size<=w5.heap.size from⟨HCl0.out.1.below hb HCl0.out.1.lt,HCl0.out.2.1,zBJ _⟩);have HS5:=kH (show(fun Y:World=>Y.cell? ⟨bx,1,none⟩=some (.int .i64 (m:Int))/\True) w5 from⟨by rw[<-hm];exact(HM2.out.up HU5.out).cx 1 _ rfl,trivial⟩);clear hb hu hdr HC5;refine hKK.out _ _ (HS5.out) (fun hHh=>?_);clear hKK KK
 try simp only[Act.put,yL]
 refine tK 7 ?_;refine tK 8 ?_;refine rd 9 (fun KK hKK=>?_);clear hHh;go_simp;refine(HF.out _).mono ?_;rintro e w6 ⟨A6,c6,rfl,p1,p2,p3⟩;rw[Hrl.out]at p2 p3⊢;obtain⟨g6,o6,c6',r1,_⟩:=aAg p2 (aBx (l:=C.rep q (-1)) (i:=0) (by rw[Hrl.out];omega));injection r1 with r1 _ r2
 subst r1 r2;have hu6:=HB5.out.up p1;have HU6:=kH (HU5.out.trans hu6);have HB6:=kH (HB5.out.below p1);have Hsr:=kH (show∀j u,(siv (C.rep q (-1)))[j]? =some u->w6.cell? ((⟨g6,o6,none⟩:Addr).add j)=some u from fun j u hj=>by
  obtain⟨g9,o9,c9,r1,r2,_⟩:=aAg p2 hj;injection r1 with r1 _ _
  injection r1 with r1
  injection r1 with r3 r4
  subst r3 r4;rw[show(⟨g6,o6,none⟩:Addr).add j=⟨g6,o6+j,none⟩from by simp[Addr.add]];exact r2)
 have HC6:=kH (show OwnAt w6 3 1 (.slice A3 m2 c3) m2 (siv (C.arg words x 0))from HCl.out.1.below (p1.mono HCl.out.2.2) HCl.out.1.lt);have HUb:=kH (HL5.out.trans (p1.mono HL5.out.size));have HS6:=kH (show(fun Y:World=>Y.cell? ⟨bx,1,none⟩=some (.int .i64 (m:Int))/\True) w6 from⟨by rw[<-hm];exact(HM2.out.up HU6.out).cx 1 _ rfl,trivial⟩);clear p1 p2 p3 hu6 HF;refine hKK.out _ _ (HS6.out) (fun hHh=>?_);clear hKK KK
 try simp only[Act.put,yL]
 refine rd 10 (fun KK hKK=>?_);clear hHh;refine aDx w6 (.tmp 72) (.tmp 79) 69 rfl 3 ii (.int .i64 0) 1 8 underlying69 Hii.out.1 Hii.out.2.1 Hii.out.2.2.1 Hii.out.2.2.2 rfl (.slice A3 m2 c3) m2 (siv (C.arg words x 0)) (by go_simp) HC6.out ⟨g6,o6,none⟩ q c6 (siv (C.rep q (-1))) (by go_simp) (by rw[aBu,Hrl.out];omega) Hsr.out (fun u hu=>by obtain⟨z,_,rfl⟩:=zBU.1 hu;rfl) (by simp only[maxLen];omega) (by omega) ?_;intro v' w7 hown hgr hat;obtain⟨A7,c7,hv⟩:=hown.form;subst hv;have Hown:=kH (And.intro hown (And.intro hgr hat));have HS7:=kH (show(fun Y:World=>Y.cell? ⟨bx,1,none⟩=some (.int .i64 (m:Int))/\True) w7 from⟨(aBn (hgr.block bx (by have:=HU6.out.un.size;have:=Hbx.out;omega) (fun e=>by have:=HCl.out.2.1 bx e.symm;have:=Hbx.out;omega))).trans HS6.out.1,trivial⟩);clear hown hgr hat;refine hKK.out _ _ HS7.out (fun hHh=>?_);clear hKK KK
 try simp only[Act.put,yL]
 refine tK 11 ?_;refine wpAnyH_done (by kernel_rfl) ?_ _;go_wp2;go_ret;have hlen:(C.arg words x 0 ++ C.rep q (-1)).length=m2+q:=by rw[zAX,Hw.out,Hrl.out]
 have hbl7:Below w.heap.size w w7:=(HUb.out.grown Hown.out.2.1 HUb.out.size (fun g hg=>by have:=HCl.out.2.1 g hg;have:=Hb2.out.size;omega));refine aCv.of hlen (H.out.b.below hbl7) (H.out.b.up hbl7) ⟨by rw[hlen,aEl];exact Hown.out.1,fun g hg=>?_⟩;rw[hlen]at hg;rcases Hown.out.2.2 with e | e
 ·rw[e]at hg;exact H.out.b.none_ (zBK Hb2.out.size (HCl.out.2.1 g hg))
 ·rw[e]at hg;have:=zAH hg;exact H.out.b.none_ (by have:=HUb.out.size;omega)
theorem aUf(h:NoI w B0 Bb Mb Cb Wb n tg vc b vars words x Aa)(hop:x.op=17)(hal:x.args.length=1){m m2:Nat}(hm:x.w=(m:Int))(hl0:(C.arg words x 0).length=m2)(hm2:1<=m2)(hlt:m2<m):
 Calls prog 70 #[.pointer (some ⟨Cb,0,none⟩),ndV x Aa ca] w (aCv w B0 Bb Mb tg (C.arg words x 0 ++ C.rep (m-m2) (C.lastL (C.arg words x 0)),b)):=by
 have H:=kH h;obtain⟨W2,hW2⟩:∃W2,W2=(w.alloc (.cells #[.pointer (some ⟨Cb,0,none⟩)] 62)).alloc (.cells #[.int .i64 x.op, .int .i64 x.w, .int .i64 x.fl, .slice Aa x.args.length ca, .int .u32 x.imm] 56):=⟨_,rfl⟩;have hb2:Below w.heap.size w W2:=by rw[hW2];exact(al0).alloc (by simp) _
 have HU2:=kH (h.b.up hb2);have Hb2:=kH hb2;have HB2:=kH (h.b.below hb2);have HC2:=kH (h.c.up HU2.out);obtain⟨bc,hbc⟩:∃c,w.heap.size=c:=⟨_,rfl⟩;obtain⟨bx,hbx⟩:∃c,bc+1=c:=⟨_,rfl⟩;have HM2:Hid (NdM W2 tg bc bx Cb x Aa ca):=kH ⟨by
  rw[hW2,<-hbc];exact aA1 (heap_alloc_new w _) _,by
  rw[hW2,<-hbx,<-hbc];have:=heap_alloc_new (w.alloc (.cells #[.pointer (some ⟨Cb,0,none⟩)] 62)) (.cells #[.int .i64 x.op, .int .i64 x.w, .int .i64 x.fl, .slice Aa x.args.length ca, .int .u32 x.imm] 56);rw[World.size_alloc]at this;exact this,by rw[<-hbc];exact h.b.none_ (zBJ _),by rw[<-hbx,<-hbc];exact h.b.none_ (Nat.le_succ _)⟩
 have k0:=HM2.out.cx 0 _ rfl;have k1:=HM2.out.cx 1 _ rfl;have k4:=HM2.out.cx 4 _ rfl;have kc:=HM2.out.cc;have hm32:m<=32:=by have:=h.w0;omega
 have Hw:=kH hl0;have Hud:=kH (HB2.out.up ((Below.refl _ W2).drew));have HBd:=kH (HB2.out.dr ((Dr.refl _).drew));obtain⟨q,hq⟩:∃q,m-m2=q:=⟨_,rfl⟩;have hqi:((m:Nat):Int)- ((m2:Nat):Int)=((q:Nat):Int):=by omega
 have hwq:IntKind.i64.wrap ((m:Int)- (m2:Int))=(q:Int):=by rw[hqi];exact IntWalk.i64_in _ (by omega)
 have hq1:1<=q:=by omega
 have hq32:q<=32:=by omega
 have Hq:=kH hq;have Hal:=kH hal;rw[hop]at k0;rw[hm]at k1;rw[hq];obtain⟨A0,c0,hw0,hc0⟩:=h.call HC2.out HM2.out HU2.out.bl (i:=0) (by omega);rw[hl0]at hc0;rw[show((0:Nat):Int)=0 from rfl]at hc0;obtain⟨n1,hn1⟩:∃n1,m2-1=n1:=⟨_,rfl⟩;obtain⟨g0,o0,rfl,e0⟩:=hw0.cell (i:=n1) (by omega);obtain⟨lt,hlt'⟩:∃l,C.lastL (C.arg words x 0)=l:=⟨_,rfl⟩;rw[show(C.arg words x 0).getD n1 0=lt from by rw[<-hlt'];unfold C.lastL;rw[hl0,hn1]]at e0;rw[hlt'];have hn1i:((m2:Nat):Int)-1=((n1:Nat):Int):=by omega
 have hwn:IntKind.i64.wrap ((m2:Int)-1)=(n1:Int):=by rw[hn1i];exact IntWalk.i64_in _ (by omega)
 have hn1l:n1<m2:=by omega
 have Hw0:=kH hw0;have HC0:=kH hc0;obtain⟨ii,hi1,hz1,hs1,hy1⟩:=iinfo;have Hii:=kH (And.intro hi1 (And.intro hz1 (And.intro hs1 hy1)));have Hbx:=kH (show bx<W2.heap.size from(gA HM2.out.rx).1);have Hg0:=kH (show∀(X:World) (tgX:TgF),Up B0 tg W2 tgX X->X.cell? ⟨g0,o0+n1,none⟩=some (.int .i64 lt)from fun X tgX u=>(aBn (u.un.no g0 (Hw0.out.1.lt g0 rfl) (Hw0.out.2 g0 rfl)).2).trans e0);have hg0W:g0<W2.heap.size:=Hw0.out.1.lt g0 rfl;have HF:=kH (fun W:World=>aD8 (w:=W) (x:=lt) (n:=q) (by omega) (by omega));have Hrl:=kH (aDg q lt);clear hl0 hal hw0 hc0 hi1 hz1 hs1 hy1 hq hqi hlt' hn1 hn1i;rw[hop,hm]at hW2;have HW2:=kH hW2;have Hbb:=kH (And.intro hbc hbx);unfold ndV;clear h hb2 hW2 hbc hbx
 go_enter func70,ntmps70
 go_upto_region 2 with(fail)
 rw[<-HW2.out,Hbb.out.1,Hbb.out.2];clear HW2 Hbb
 go_upto_region 21 with(fail)
 go_wp2_with fail
 refine HC0.out.mono ?_;rintro e w3 ⟨rfl,hdr⟩;have hb:=hdr.below W2.heap.size;have hu:=HB2.out.up hb;have HB3:=kH ((HB2.out.below hb).dr ((Dr.refl _).drew));have HU3:=kH (hu.trans ((HB2.out.below hb).up ((Below.refl _ w3).drew)));have HL3:=kH ((Hb2.out.trans (hb.mono Hb2.out.size)).drew);have hK:=aDl (Hw0.out.up HU3.out) (by rw[Hw.out];omega);rw[Hw.out]at hK;have HK:=kH hK;have HS3:=kH (show(fun Y:World=>Y.cell? ⟨bx,1,none⟩=some (.int .i64 (m:Int))/\Y.cell? ⟨g0,o0+n1,none⟩=some (.int .i64 lt)) w3.drew from⟨by rw[<-hm];exact(HM2.out.up HU3.out).cx 1 _ rfl,Hg0.out _ _ HU3.out⟩);clear hb hu hdr HC0 hK e0
 go_upto_region 22 with(fail)
 refine wp_region_held_drew (S:=fun Y:World=>Y.cell? ⟨bx,1,none⟩=some (.int .i64 (m:Int))/\Y.cell? ⟨g0,o0+n1,none⟩=some (.int .i64 lt)) (by kernel_rfl) (HS3.out) (fun hHh=>?_);refine tK 0 ?_;refine tK 2 ?_;refine tK 3 ?_;refine tK 4 ?_;refine tK 5 ?_;refine tK 6 ?_;refine tK 7 ?_;refine tK 8 ?_;refine tK 9 ?_;refine tK 10 ?_;refine tK 11 ?_;refine tK 12 ?_;refine rd 1 (fun KK hKK=>?_);clear hHh;go_simp;refine HK.out.mono ?_;rintro e w4 ⟨A3,c3,rfl,p1,p2,p3⟩;rw[Hw.out]at p2 p3⊢;have hu4:=HB3.out.up p1;have HB5:=kH (HB3.out.below p1);have HU5:=kH (HU3.out.trans hu4);have hs3:W2.heap.size<=w3.drew.heap.size:=HU3.out.un.size;have HL5:=kH (HL3.out.trans (p1.mono HL3.out.size));have HCl:=kH (show OwnAt w4 3 1 (.slice A3 m2 c3) m2 (siv (C.arg words x 0))/\(∀g,(Value.slice A3 m2 c3).ownBlock=some g->W2.heap.size<=g)/\w4.heap.size<=w4.heap.size from⟨p2,fun g hg=>zBK hs3 (p3 g hg),zBJ _⟩);have HS4:=kH (show(fun Y:World=>Y.cell? ⟨bx,1,none⟩=some (.int .i64 (m:Int))/\Y.cell? ⟨g0,o0+n1,none⟩=some (.int .i64 lt)) w4 from⟨by rw[<-hm];exact(HM2.out.up HU5.out).cx 1 _ rfl,Hg0.out _ _ HU5.out⟩);clear p1 p2 p3 hu4 HK;refine hKK.out _ _ (HS4.out) (fun hHh=>?_);clear hKK KK
 try simp only[Act.put,yL]
 refine rd 13 (fun KK hKK=>?_);clear hHh;go_simp;refine(HF.out _).mono ?_;rintro e w6 ⟨A6,c6,rfl,p1,p2,p3⟩;rw[Hrl.out]at p2 p3⊢;obtain⟨g6,o6,c6',r1,_⟩:=aAg p2 (aBx (l:=C.rep q lt) (i:=0) (by rw[Hrl.out];omega));injection r1 with r1 _ r2
 subst r1 r2;have hu6:=HB5.out.up p1;have HU6:=kH (HU5.out.trans hu6);have HB6:=kH (HB5.out.below p1);have Hsr:=kH (show∀j u,(siv (C.rep q lt))[j]? =some u->w6.cell? ((⟨g6,o6,none⟩:Addr).add j)=some u from fun j u hj=>by
  obtain⟨g9,o9,c9,r1,r2,_⟩:=aAg p2 hj;injection r1 with r1 _ _
  injection r1 with r1
  injection r1 with r3 r4
  subst r3 r4;rw[show(⟨g6,o6,none⟩:Addr).add j=⟨g6,o6+j,none⟩from by simp[Addr.add]];exact r2)
 have HC6:=kH (show OwnAt w6 3 1 (.slice A3 m2 c3) m2 (siv (C.arg words x 0))from HCl.out.1.below (p1.mono HCl.out.2.2) HCl.out.1.lt);have HUb:=kH (HL5.out.trans (p1.mono HL5.out.size));have HS6:=kH (show(fun Y:World=>Y.cell? ⟨bx,1,none⟩=some (.int .i64 (m:Int))/\Y.cell? ⟨g0,o0+n1,none⟩=some (.int .i64 lt)) w6 from⟨by rw[<-hm];exact(HM2.out.up HU6.out).cx 1 _ rfl,Hg0.out _ _ HU6.out⟩);clear p1 p2 p3 hu6 HF;refine hKK.out _ _ (HS6.out) (fun hHh=>?_);clear hKK KK
 try simp only[Act.put,yL]
 refine rd 14 (fun KK hKK=>?_);clear hHh;refine aDx w6 (.tmp 86) (.tmp 98) 69 rfl 3 ii (.int .i64 0) 1 8 underlying69 Hii.out.1 Hii.out.2.1 Hii.out.2.2.1 Hii.out.2.2.2 rfl (.slice A3 m2 c3) m2 (siv (C.arg words x 0)) (by go_simp) HC6.out ⟨g6,o6,none⟩ q c6 (siv (C.rep q lt)) (by go_simp) (by rw[aBu,Hrl.out];omega) Hsr.out (fun u hu=>by obtain⟨z,_,rfl⟩:=zBU.1 hu;rfl) (by simp only[maxLen];omega) (by omega) ?_;intro v' w7 hown hgr hat;obtain⟨A7,c7,hv⟩:=hown.form;subst hv;have Hown:=kH (And.intro hown (And.intro hgr hat));have HS7:=kH (show(fun Y:World=>Y.cell? ⟨bx,1,none⟩=some (.int .i64 (m:Int))/\Y.cell? ⟨g0,o0+n1,none⟩=some (.int .i64 lt)) w7 from⟨(aBn (hgr.block bx (by have:=HU6.out.un.size;have:=Hbx.out;omega) (fun e=>by have:=HCl.out.2.1 bx e.symm;have:=Hbx.out;omega))).trans HS6.out.1,(aBn (hgr.block g0 (by have:=HU6.out.un.size;omega) (fun e=>by have:=HCl.out.2.1 g0 e.symm;omega))).trans HS6.out.2⟩);clear hown hgr hat;refine hKK.out _ _ HS7.out (fun hHh=>?_);clear hKK KK
 try simp only[Act.put,yL]
 refine tK 15 ?_;refine wpAnyH_done (by kernel_rfl) ?_ _;go_wp2;go_ret;have hlen:(C.arg words x 0 ++ C.rep q lt).length=m2+q:=by rw[zAX,Hw.out,Hrl.out]
 have hbl7:Below w.heap.size w w7:=(HUb.out.grown Hown.out.2.1 HUb.out.size (fun g hg=>by have:=HCl.out.2.1 g hg;have:=Hb2.out.size;omega));refine aCv.of hlen (H.out.b.below hbl7) (H.out.b.up hbl7) ⟨by rw[hlen,aEl];exact Hown.out.1,fun g hg=>?_⟩;rw[hlen]at hg;rcases Hown.out.2.2 with e | e
 ·rw[e]at hg;exact H.out.b.none_ (zBK Hb2.out.size (HCl.out.2.1 g hg))
 ·rw[e]at hg;have:=zAH hg;exact H.out.b.none_ (by have:=HUb.out.size;omega)
end
inductive NdK(words:List (List Int))(x:T.Nd):Prop where
 | const (h:x.op=0)
 | var (h:x.op=33) (hi:x.imm<4)
 | cmp (h:x.op=14) (hi:x.imm<=9) (hl:x.args.length=2) (m:Nat) (h1:1<=m) (h2:m<=32) (h3:(C.arg words x 0).length=m) (h4:(C.arg words x 1).length=m) (hw:x.w=1)
 | ite (h:x.op=15) (hl:x.args.length=3) (h3:(C.arg words x 0).length=1) (h4:(C.arg words x 1).length=x.w.toNat) (h5:(C.arg words x 2).length=x.w.toNat)
 | zext (h:x.op=16) (hl:x.args.length=1) (h1:1<=(C.arg words x 0).length) (h2:(C.arg words x 0).length<x.w.toNat)
 | sext (h:x.op=17) (hl:x.args.length=1) (h1:1<=(C.arg words x 0).length) (h2:(C.arg words x 0).length<x.w.toNat)
 | trunc (h:x.op=18) (hl:x.args.length=1) (h2:x.w.toNat<(C.arg words x 0).length)
 | bin (h1:1<=x.op) (h2:x.op<=13) (hl:x.args.length=2) (h3:(C.arg words x 0).length=x.w.toNat) (h4:(C.arg words x 1).length=x.w.toNat)
theorem bFa{t:List T.Nd}{k:Nat}{x:T.Nd}{words:List (List Int)}(hs:T.aAq true k x=true)(hty:T.typed t x=true)
 (hw:∀a∈x.args,((words.getD a.toNat []).length:Int)=(t.getD a.toNat default).w/\1<=(t.getD a.toNat default).w/\(t.getD a.toNat default).w<=32):NdK words x:=by
 obtain⟨a1,a2,a3,a4,a5,a6⟩:=T.aAo hs;have harg:∀i,i<x.args.length->((C.arg words x i).length:Int)=T.wd t x i/\1<=T.wd t x i/\T.wd t x i<=32:=fun i hi=>by
  have hm:x.args.getD i 0∈x.args:=by rw[List.getD,zAB hi];exact zBM hi
  exact hw _ hm
 by_cases h0:x.op=0
 ·exact .const h0
 by_cases h33:x.op=33
 ·refine .var h33 ?_;unfold T.immOk at a5;rw[if_neg h0,if_pos h33]at a5;simpa using a5
 by_cases h14:x.op=14
 ·have hal:x.args.length=2:=by
   unfold T.ar at a1;rw[h14]at a1;simp at a1;omega
  have hw1:x.w=1:=by
   have:=hs;unfold T.aAq at this;simp only[Bool.and_eq_true,Bool.or_eq_true,zBQ,Bool.not_eq_true',decide_eq_false_iff_not]at this;rcases this.1.2 with h | h
   ·exact absurd h14 h
   ·exact h
  have him:x.imm<=9:=by
   unfold T.immOk at a5;rw[if_neg h0,if_neg h33,if_pos h14]at a5;simpa using a5
  have htw:T.wd t x 0=T.wd t x 1:=by
   unfold T.typed at hty;rw[h14]at hty;simpa using hty
  obtain⟨p2,p4,p5⟩:=harg 0 (by omega);obtain⟨q2,q4,q5⟩:=harg 1 (by omega);exact .cmp h14 him hal _ (by omega) (by omega) rfl (by omega) hw1
 by_cases h15:x.op=15
 ·have hal:x.args.length=3:=by
   unfold T.ar at a1;rw[h15]at a1;simp at a1;omega
  have ht3:T.wd t x 0=1/\T.wd t x 1=x.w/\T.wd t x 2=x.w:=by
   unfold T.typed at hty;rw[h15]at hty;simp at hty;exact⟨hty.1.1,hty.1.2,hty.2⟩
  obtain⟨o2,o4,o5⟩:=harg 0 (by omega);obtain⟨p2,p4,p5⟩:=harg 1 (by omega);obtain⟨q2,q4,q5⟩:=harg 2 (by omega);exact .ite h15 hal (by omega) (by omega) (by omega)
 have hops:(16<=x.op/\x.op<=18)\/(1<=x.op/\x.op<=13):=by
  have h9:=a2;unfold T.ar at h9;split at h9 <;> first | omega |(split at h9 <;> first | omega |(split at h9 <;> first | omega |(split at h9 <;> omega)))
 rcases hops with⟨h16,h18⟩ |⟨h1,h13⟩
 ·have hal:x.args.length=1:=by
   have e1:T.ar x.op=1:=by
    unfold T.ar;rw[if_neg (by omega),if_neg (by omega),if_neg (by omega),if_pos ⟨h16,h18⟩]
   omega
  obtain⟨p2,p4,p5⟩:=harg 0 (by omega);rcases(show x.op=16\/x.op=17\/x.op=18 by omega)with h | h | h
  ·have ht2:T.wd t x 0<x.w:=by
    unfold T.typed at hty;rw[h]at hty;simpa using hty
   exact .zext h hal (by omega) (by omega)
  ·have ht2:T.wd t x 0<x.w:=by
    unfold T.typed at hty;rw[h]at hty;simpa using hty
   exact .sext h hal (by omega) (by omega)
  ·have ht2:x.w<T.wd t x 0:=by
    unfold T.typed at hty;rw[h]at hty;simpa using hty
   exact .trunc h hal (by omega)
 ·have hal:x.args.length=2:=by
   have e1:T.ar x.op=2:=by
    unfold T.ar;rw[if_neg (by omega),if_pos ⟨h1,by omega⟩]
   omega
  have ht2:T.wd t x 0=x.w/\T.wd t x 1=x.w:=by
   unfold T.typed at hty;rw[if_pos ⟨h1,h13⟩]at hty;simpa using hty
  obtain⟨p2,p4,p5⟩:=harg 0 (by omega);obtain⟨q2,q4,q5⟩:=harg 1 (by omega);exact .bin h1 h13 hal (by omega) (by omega)
section
variable {w w' : World} {B0 Bb Mb Cb Wb n bc bx ca : Nat} {tg tg' : TgF} {vc : Value} {b : C.Bd} {vars words : List (List Int)} {x : T.Nd} {Aa : Option Addr}
theorem aZf(h:NoI w B0 Bb Mb Cb Wb n tg vc b vars words x Aa)(hk:NdK words x):
 Calls prog 70 #[.pointer (some ⟨Cb,0,none⟩),ndV x Aa ca] w (aCv w B0 Bb Mb tg (C.node vars words x b)):=by
 have hw0:=h.w0;have hwn:x.w=((x.w.toNat:Nat):Int):=by omega
 cases hk with
 | const h0=>
  have:=aXf (ca:=ca) h h0 hwn;rw[show C.node vars words x b=(C.aB6 x.w.toNat x.imm,b)from by unfold C.node;rw[if_pos h0]];exact this
 | var h0 hi=>
  have:=aUa (ca:=ca) h h0 hi;rw[show C.node vars words x b=(vars.getD x.imm.toNat [],b)from by unfold C.node;rw[if_neg (by omega),if_pos h0]];exact this
 | cmp h0 hi hl m h1 h2 h3 h4 hw=>
  have:=aUb (ca:=ca) h h0 hi hl h1 (by omega) h3 h4;rw[show C.node vars words x b=([(C.cmpC x.imm (C.arg words x 0) (C.arg words x 1) b).1],(C.cmpC x.imm (C.arg words x 0) (C.arg words x 1) b).2)from by unfold C.node;rw[if_neg (by omega),if_neg (by omega),if_pos h0]];exact this
 | ite h0 hl h3 h4 h5=>
  have:=aUc (ca:=ca) h h0 hl (m:=x.w.toNat) (by omega) h3 h4 h5;rw[show C.node vars words x b=C.picks ((C.arg words x 0).getD 0 0) (C.arg words x 1) (C.arg words x 2) b from by unfold C.node;rw[if_neg (by omega),if_neg (by omega),if_neg (by omega),if_pos h0]];exact this
 | zext h0 hl h1 h2=>
  have:=aUe (ca:=ca) h h0 hl hwn rfl h1 h2;rw[show C.node vars words x b=(C.arg words x 0 ++ C.rep (x.w.toNat- (C.arg words x 0).length) (-1),b)from by unfold C.node;rw[if_neg (by omega),if_neg (by omega),if_neg (by omega),if_neg (by omega),if_pos h0]];exact this
 | sext h0 hl h1 h2=>
  have:=aUf (ca:=ca) h h0 hl hwn rfl h1 h2;rw[show C.node vars words x b=(C.arg words x 0 ++ C.rep (x.w.toNat- (C.arg words x 0).length) (C.lastL (C.arg words x 0)),b)from by unfold C.node;rw[if_neg (by omega),if_neg (by omega),if_neg (by omega),if_neg (by omega),if_neg (by omega),if_pos h0]];exact this
 | trunc h0 hl h2=>
  have:=aUd (ca:=ca) h h0 hl hwn rfl h2;rw[show C.node vars words x b=((C.arg words x 0).take x.w.toNat,b)from by unfold C.node;rw[if_neg (by omega),if_neg (by omega),if_neg (by omega),if_neg (by omega),if_neg (by omega),if_neg (by omega),if_pos h0]];exact this
 | bin h1 h2 hl h3 h4=>
  have:=aXe (ca:=ca) h h1 h2 hl h3 h4;rw[show C.node vars words x b=C.arith x.op (C.arg words x 0) (C.arg words x 1) b from by unfold C.node;rw[if_neg (by omega),if_neg (by omega),if_neg (by omega),if_neg (by omega),if_neg (by omega),if_neg (by omega),if_neg (by omega)]];exact this
end
theorem aZg(w:Nat)(imm:Int):C.Wb (C.aB6 w imm):=fun l hl=>by
 obtain⟨i,_,rfl⟩:=zBU.1 hl;split
 ·exact C.ib1
 ·exact C.ibm1
theorem aEb{words:List (List Int)}{x:T.Nd}(hb:∀a∈x.args,C.Wb (words.getD a.toNat [])){i:Nat}(hi:i<x.args.length):C.Wb (C.arg words x i):=by
 have hm:x.args.getD i 0∈x.args:=by rw[List.getD,zAB hi];exact zBM hi
 exact hb _ hm
theorem bD5{vars words:List (List Int)}{x:T.Nd}{b:C.Bd}(hk:NdK words x)(hw0:1<=x.w/\x.w<=32)(hb:C.Bo b)(hwb:∀a∈x.args,C.Wb (words.getD a.toNat []))
 (hv:x.op=33->C.Wb (vars.getD x.imm.toNat [])/\(vars.getD x.imm.toNat []).length=x.w.toNat):RBo x.w.toNat (C.node vars words x b):=by
 cases hk with
 | const h0=>
  rw[show C.node vars words x b=(C.aB6 x.w.toNat x.imm,b)from by unfold C.node;rw[if_pos h0]];exact⟨hb,aZg _ _,by simp[C.aB6]⟩
 | var h0 hi=>
  rw[show C.node vars words x b=(vars.getD x.imm.toNat [],b)from by unfold C.node;rw[if_neg (by omega),if_pos h0]];exact⟨hb,(hv h0).1,(hv h0).2⟩
 | cmp h0 hi hl m h1 h2 h3 h4 hw=>
  rw[show C.node vars words x b=([(C.cmpC x.imm (C.arg words x 0) (C.arg words x 1) b).1],(C.cmpC x.imm (C.arg words x 0) (C.arg words x 1) b).2)from by unfold C.node;rw[if_neg (by omega),if_neg (by omega),if_pos h0]];obtain⟨q1,q2⟩:=bD2 (p:=x.imm) (aEb hwb (i:=0) (by omega)) (aEb hwb (i:=1) (by omega)) hb (by rw[h3,h4]) (by omega);exact⟨q1,aGm q2,by rw[hw];rfl⟩
 | ite h0 hl h3 h4 h5=>
  rw[show C.node vars words x b=C.picks ((C.arg words x 0).getD 0 0) (C.arg words x 1) (C.arg words x 2) b from by unfold C.node;rw[if_neg (by omega),if_neg (by omega),if_neg (by omega),if_pos h0]];have:=aMp (wb_at (aEb hwb (i:=0) (by omega)) (i:=0) (by omega)) (aEb hwb (i:=1) (by omega)) (aEb hwb (i:=2) (by omega)) hb (by rw[h4,h5]);rw[h4]at this;exact this
 | zext h0 hl h1 h2=>
  rw[show C.node vars words x b=(C.arg words x 0 ++ C.rep (x.w.toNat- (C.arg words x 0).length) (-1),b)from by unfold C.node;rw[if_neg (by omega),if_neg (by omega),if_neg (by omega),if_neg (by omega),if_pos h0]];exact⟨hb,aEx (aEb hwb (by omega)) (aGl C.ibm1),by simp[C.rep];omega⟩
 | sext h0 hl h1 h2=>
  rw[show C.node vars words x b=(C.arg words x 0 ++ C.rep (x.w.toNat- (C.arg words x 0).length) (C.lastL (C.arg words x 0)),b)from by unfold C.node;rw[if_neg (by omega),if_neg (by omega),if_neg (by omega),if_neg (by omega),if_neg (by omega),if_pos h0]];exact⟨hb,aEx (aEb hwb (by omega)) (aGl (wb_at (aEb hwb (i:=0) (by omega)) (by omega):C.Ib (C.lastL (C.arg words x 0)))),by simp[C.rep];omega⟩
 | trunc h0 hl h2=>
  rw[show C.node vars words x b=((C.arg words x 0).take x.w.toNat,b)from by unfold C.node;rw[if_neg (by omega),if_neg (by omega),if_neg (by omega),if_neg (by omega),if_neg (by omega),if_neg (by omega),if_pos h0]];exact⟨hb,aG9 (aEb hwb (by omega)) _,by rw[zAZ];omega⟩
 | bin h1 h2 hl h3 h4=>
  rw[show C.node vars words x b=C.arith x.op (C.arg words x 0) (C.arg words x 1) b from by unfold C.node;rw[if_neg (by omega),if_neg (by omega),if_neg (by omega),if_neg (by omega),if_neg (by omega),if_neg (by omega),if_neg (by omega)]];have:=bBw (op:=x.op) (aEb hwb (i:=0) (by omega)) (aEb hwb (i:=1) (by omega)) (by rw[h3,h4]) (by omega) hb;rw[h3]at this;exact this
end
end Go.Proofs.YtchdbhggbdcapaaGreat
