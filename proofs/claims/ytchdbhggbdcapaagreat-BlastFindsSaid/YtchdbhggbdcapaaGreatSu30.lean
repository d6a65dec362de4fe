/- Part. -/
import Derived.Test.YtchdbhggbdcapaaGreatSuLX
import Derived.Test.YtchdbhggbdcapaaGreatSu28
set_option linter.unusedVariables false
set_option linter.unusedSimpArgs false
set_option maxRecDepth 100000
set_option maxHeartbeats 16000000
namespace Go.Proofs.YtchdbhggbdcapaaGreat
open _root_.Go.Proofs.Tryz
section
open Go.RowKit
theorem aS2(t:List T.Nd)(g k:Nat)(W:World)(hrow:W.heap[g]? =some (.cells ((T.aAa t).map (Value.int .i64)).toArray 3 (0,0)))(hm:C.Tm t)(hk:k<=4398046511104):
 Calls prog 25 #[.slice (some ⟨g,0,none⟩) 4 4, .int .i64 (k:Int)] W fun e w'=>∃A c,e= .returned (.slice A 4 c)/\SlAt (IntR .u32) w' A 4 (C.envK (T.aAa t) k)/\Below W.heap.size W w':=by
 have hwl:=T.aA9 t;have Hp:=kH (And.intro hm (And.intro hwl hrow));clear hrow hm hwl;have hmk:=fun(W':World)=>aBd (P:=prog) 42 45 (.int .u32 0) 4 underlying42 aC1 rfl .i64 .i64 4 4 (by omega) (by omega) (by omega) W'
 go_enter func25,ntmps25
 go_upto_region 2 with(fail)
 clear hmk;obtain⟨ge,hge⟩:∃g,W.heap.size=g:=⟨_,rfl⟩;obtain⟨w4,hw4⟩:∃w4,w4=W.alloc (Obj.cells (Array.replicate 4 (Value.int IntKind.u32 0)) 45):=⟨_,rfl⟩;rw[<-hw4,hge];have hb4:Below W.heap.size W w4:=by rw[hw4];exact al0
 have hr4:w4.heap[ge]? =some (.cells ((ekN t k 0).map (Value.int .u32)).toArray 45 (0,0)):=by rw[hw4,<-hge,heap_alloc_new,aMu];rfl
 have H4:=kH (And.intro hb4 (And.intro hr4 (And.intro hge (show C.total ((T.aAa t).take 0)=0 by simp[C.total]))));clear hw4 hge hb4 hr4
 go_upto_region 3 with(fail)
 go_loopw [6,1] (fun s6 s1 wr=>∃v:Nat,v<=4/\s6= .int .i64 (v:Int)/\s1= .int .i64 ((k / 2 ^ C.total ((T.aAa t).take v):Nat):Int)/\Hid (Below W.heap.size W wr/\wr.heap[ge]? =some (.cells ((ekN t k v).map (Value.int .u32)).toArray 45 (0,0)))) (fun s _ _=>4- (intOf s).toNat)
 case atStart=>exact⟨0,by omega,rfl,by rw[H4.out.2.2.2,Nat.pow_zero,Nat.div_one],kH ⟨H4.out.1,H4.out.2.1⟩⟩
 case round=>
  obtain⟨v,hv4,rfl,rfl,HI⟩:=hrel
  by_cases hlt4:v<4
  ·obtain⟨z,hz⟩:∃z,(T.aAa t)[v]? =some z:=⟨_,zAB (by have:=Hp.out.2.1;omega)⟩;obtain⟨z0,z1⟩:=C.aCx Hp.out.1 hz;have hs:=aEp hz;have hea:=C.aF4 (T.aAa t) k v (by have:=Hp.out.2.1;omega);have hgd:(T.aAa t).getD v 0=z:=by rw[List.getD,hz];rfl
   rw[hgd]at hea;obtain⟨K,hK⟩:∃K,C.total ((T.aAa t).take v)=K:=⟨_,rfl⟩;obtain⟨m,rfl⟩:∃m:Nat,z=m:=⟨z.toNat,by omega⟩;rw[hK,zBA]at hs hea;rw[hK];obtain⟨q,hq⟩:∃q,k / 2 ^ K=q:=⟨_,rfl⟩;rw[hq]at hea⊢;have hqk:q<=k:=by rw[<-hq];exact Nat.div_le_self _ _
   have hm32:m<=32:=by omega
   have hc:=(HI.out.1.cell (p:=⟨g,v,none⟩) (gA Hp.out.2.2).1).trans (cell_of_row W g v _ _ (0,0) Hp.out.2.2);rw[zAV,zAW,hz]at hc;have hc:wr.cell? ⟨g,v,none⟩=some (.int .i64 (m:Int)):=hc;have hv3:(v:Int) < 4:=by omega
   have hfz:wr.frozen? ⟨ge,v,none⟩=false:=aCm HI.out.2 _;have hcv:wr.cell? ⟨ge,v,none⟩=some (.int .u32 0):=by rw[cell_of_row _ _ _ _ _ (0,0) HI.out.2,zAV,zAW,aHa _ _ _ hlt4,if_neg (by omega)];rfl
   have Hs:=kH (And.intro hs (And.intro hea hq));have h2m:(2:Nat) ^ m<=4294967296:=zBK (zAJ (by decide) hm32) (by decide);have h2p:=Nat.two_pow_pos m;obtain⟨pm,hpm⟩:∃p:Nat,2 ^ m=p:=⟨_,rfl⟩;rw[hpm]at h2m h2p;have hw:IntKind.i64.wrap ((2:Int) ^ m)=(pm:Int):=by
    have h1:(2:Int) ^ m=((2 ^ m:Nat):Int):=by simp
    rw[h1,hpm];exact IntWalk.i64_in _ (by omega)
   clear hs hK hz hea hgd hq;go_wp2;have hdq:wrap64 ((q:Int) / (pm:Int))=((q / pm:Nat):Int):=by
    have h1:q / pm<=q:=Nat.div_le_self _ _;have h2:wrap64 ((q / pm:Nat):Int)=((q / pm:Nat):Int):=by
     obtain⟨r,hr⟩:∃r,q / pm=r:=⟨_,rfl⟩;rw[hr]at h1⊢;exact IntWalk.wrap64_in _ (by omega)
    rw[<-Int.natCast_ediv,h2]
   have hmq:(q:Int) % (pm:Int) % 4294967296=((q % 2 ^ m:Nat):Int):=by
    have h1:q % pm<pm:=Nat.mod_lt _ h2p;rw[hpm,<-Int.natCast_emod];obtain⟨r,hr⟩:∃r,q % pm=r:=⟨_,rfl⟩;rw[hr]at h1⊢;omega
   rw[hdq,hmq];go_roundw
   case rel=>
    refine⟨v+1,by omega,by go_num,?_,kH ⟨HI.out.1.setCell (p:=⟨ge,v,none⟩) (zAM H4.out.2.2.1) _,?_⟩⟩
    ·rw[Hs.out.1,Nat.pow_add,<-Nat.div_div_eq_div_mul,Hs.out.2.2,hpm]
    ·rw[heap_setCell_same wr ge v _ _ _ HI.out.2,<-aO1 t k hlt4,Hs.out.2.1,List.map_set];simp
   case measure=>simp[intOf];omega
  ·obtain rfl:v=4:=by omega
   have hrow:=HI.out.2;rw[aMv]at hrow;have hel:(C.envK (T.aAa t) k).length=4:=by rw[C.aE6];exact Hp.out.2.1
   have hsl:=aGw hrow (by rw[hel];omega);rw[hel]at hsl;have Hsl:=kH hsl;clear hrow hel hsl;go_wp2;go_ret;exact⟨_,_,rfl,Hsl.out,HI.out.1⟩
end
end Go.Proofs.YtchdbhggbdcapaaGreat
