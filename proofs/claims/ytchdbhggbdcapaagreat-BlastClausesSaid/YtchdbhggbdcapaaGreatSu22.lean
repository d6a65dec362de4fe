/- Part. -/
import Derived.Test.YtchdbhggbdcapaaGreatSuLX
import Derived.Test.YtchdbhggbdcapaaGreatSu15
set_option linter.unusedVariables false
set_option linter.unusedSimpArgs false
set_option maxRecDepth 100000
set_option maxHeartbeats 16000000
namespace Go.Proofs.YtchdbhggbdcapaaGreat
open _root_.Go.Proofs.Tryz
section
open Go.RowKit
theorem Tryz.sinfoBool:(prog.info? 4).map (fun i=>(i.zero,i.size,i.bytes))=some (some (.bool false),1,1):=by kernel_rfl
theorem aZo(s:S.Sol)(m at1:Nat):S.opens s (List.replicate m false) at1=0:=by
 unfold S.opens;rw[List.countP_eq_zero];intro t _;unfold S.aAs;rw[S.aE7];split <;> simp
theorem aGo{s:S.Sol}{sn sn':List Bool}{d:List Int}{i:Nat}{l told:Int}(h:∀(j:Nat) (m:Int),j<i->d[j]? =some m->m≠told->s.lvl.getD m.natAbs 0=0\/S.aAs sn m=true)(hl:d[i]? =some l)(hm:∀m,S.aAs sn m=true->S.aAs sn' m=true)
 (hs:l≠told->s.lvl.getD l.natAbs 0=0\/S.aAs sn' l=true):∀(j:Nat) (m:Int),j<i+1->d[j]? =some m->m≠told->s.lvl.getD m.natAbs 0=0\/S.aAs sn' m=true:=by
 intro j m hj hm' hne;rcases Nat.lt_or_ge j i with hji | hji
 ·exact(h j m hji hm' hne).imp_right (hm m)
 ·obtain rfl:j=i:=by omega
  rw[hl]at hm';obtain rfl:=zAH hm';exact hs hne
theorem bEa{w:World}{e:TypeId}{g o n c j:Nat}{xs:List Value}(h:OwnAt w e 1 (.slice (some ⟨g,o,none⟩) n c) n xs)(hj:j<n)(u:Value):OwnAt (w.setCell ⟨g,o+j,none⟩ u) e 1 (.slice (some ⟨g,o,none⟩) n c) n (xs.set j u):=by
 have hl:=h.1;refine⟨by rw[zBC];exact hl,?_⟩;rcases h.2 with⟨hv,h0⟩ |⟨g',off,cap,cur,hv,hg,hnc,hcm,hcs,hcur⟩
 ·omega
 ·injection hv with hA _ hcc
  injection hA with hA
  injection hA with a1 a2 _
  subst a1 a2 hcc;refine .inr ⟨g,o,c,cur.setIfInBounds (o+j) u,rfl,?_,hnc,hcm,by simpa using hcs,fun i y hi=>?_⟩
  ·rw[heap_setCell_same w g (o+j) _ _ _ hg]
  ·rw[List.getElem?_set]at hi;rw[Array.getElem?_setIfInBounds]
   by_cases e2:j=i
   ·subst e2;rw[if_pos rfl]at hi⊢;split at hi
    ·rw[if_pos (by omega)];exact hi
    ·cases hi
   ·rw[if_neg e2]at hi;rw[if_neg (by omega)];exact hcur i y hi
theorem LM.setOut{w w0:World}{B0 Sb n:Nat}{tg:TgF}{v:Sv}{s:S.Sol}{gs g o m c:Nat}{seen:List Bool}{out:List Int}(h:LM w0 B0 Sb n tg v s gs seen (.slice (some ⟨g,o,none⟩) m c) out w)(hm:m=out.length)(hn:∀b,w0.heap.size<=b->tg b=none)(hB:B0<=w0.heap.size){j:Nat}(hj:j<m)(x:Int):
 LM w0 B0 Sb n tg v s gs seen (.slice (some ⟨g,o,none⟩) m c) (out.set j x) (w.setCell ⟨g,o+j,none⟩ (.int .i64 x)):=by
 subst hm;obtain⟨ri,hs⟩:=h.sat;obtain⟨h1,h2⟩:=h.ot g rfl;have hk:∀b,b≠g->(w.setCell ⟨g,o+j,none⟩ (.int .i64 x)).heap[b]? =w.heap[b]? :=fun b hb=>Below.heap_setCell w ⟨g,o+j,none⟩ _ b hb
 have h0:=hn g h1;refine⟨⟨ri,hs.frame (by rw[aAf];exact zBJ _) fun b t ht=>hk b fun e=>by subst e;rw[h0]at ht;cases ht⟩,⟨by rw[aAf];exact h.uw.size,fun b hb q1 q2=>(hk b (by omega)).trans (h.uw.keep b hb q1 q2)⟩,h.bl.setCell (p:=⟨g,o+j,none⟩) (zBK hB h1) _,(hk gs (Ne.symm h2)).trans h.seen,h.sg,?_,h.ot⟩;have:=bEa h.out hj (.int .i64 x);rw[zBC,aDd];exact this
theorem LM.cout{w w0:World}{B0 Sb n:Nat}{tg:TgF}{v:Sv}{s:S.Sol}{gs g o m c:Nat}{seen:List Bool}{out:List Int}(h:LM w0 B0 Sb n tg v s gs seen (.slice (some ⟨g,o,none⟩) m c) out w){j:Nat}{x:Int}(hj:out[j]? =some x):w.cell? ⟨g,o+j,none⟩=some (.int .i64 x)/\∀i,w.frozen? ⟨g,i,none⟩=false:=by
 obtain⟨g',o',c',q1,q2,q3,_⟩:=aAg h.out (j:=j) (u:= .int .i64 x) (by unfold siv;rw[zAW,hj];rfl);injection q1 with q4 _ _
 injection q4 with q4
 injection q4 with a1 a2 _
 subst a1 a2;exact⟨q2,q3⟩
theorem gu_lt{Z w1:World}{gu:Nat}(h:Z.heap[gu]? =w1.heap[gu]?)(hl:gu<w1.heap.size):gu<Z.heap.size:=by
 have h2:=Array.getElem?_eq_getElem (xs:=w1.heap) hl;rw[<-h]at h2;exact(gA h2).1
theorem bB4{Z w1:World}{gu:Nat}{o:Obj}(h:Z.heap[gu]? =w1.heap[gu]?)(hl:gu<w1.heap.size):gu<(Z.alloc o).heap.size:=by
 have:=gu_lt h hl;simp;omega
section
variable {w w0 w' : World} {B0 Sb n : Nat} {tg : TgF} {v : Sv} {s : S.Sol} {cs0 done : List (List Int)} {p : Nat}
theorem aUi(h:SAt w B0 Sb tg n v s)(hn:n<=4000)(h10:10<n)(hi:S.Inv n cs0 done p s)(hlim:s.lim≠ []){k:Nat}{c:List Int}(hc:s.cls[k]? =some c)(hf:∀m∈c,S.val s.val m= -1)(hkm:s.cls.length<=900000):
 Calls prog 102 #[.pointer (some ⟨Sb,0,none⟩), .int .i64 (k:Int)] w (aKs w B0 Sb n tg v (cs0 ++ s.lrn) s):=by
 have hts:=hi.trl.size;have hls:=hi.trl.limsz;obtain⟨Af,cf,hli⟩:=h.li.1.form;have hlpos:0<s.lim.length:=List.length_pos_iff.2 hlim;obtain⟨gt,ot,ct,et,-,-,-,-⟩:=aAg h.tr.1 (j:=0) (by rw[aBx (by omega)]);have c3:=h.c3;have c6:w.cell? ⟨Sb,6,none⟩=some (.slice (some ⟨gt,ot,none⟩) s.trl.length ct):=by rw[h.c6,et]
 have hdk:decide ((n:Int)+1<=11)=false:=by simp;omega
 have HS:=kH h;have Hi:=kH hi;have Hlim:=kH hlim;have Hc:=kH hc;have Hf:=kH hf;have Hli:=kH hli;have Het:=kH et;have Hnone:=kH (show∀b,w.heap.size<=b->tg b=none from fun b hb=>h.none_ hb);have HB0:=kH (show B0<=w.heap.size from by have:=h.lt _ _ h.st.2;omega);obtain⟨TL,hTL⟩:∃TL,s.trl.length=TL:=⟨_,rfl⟩;rw[hTL]at hts hls c6;have HTL:=kH hTL;have hmk:=fun(W':World)=>aBd (P:=prog) 65 4 (.bool false) 1 underlying65 Tryz.sinfoBool rfl .i64 .i64 (n+1) ((n:Int)+1) (by omega) (by omega) (by omega) W'
 have HM:=kH (show LM w B0 Sb n tg v s w.heap.size (List.replicate (n+1) false) (.slice (some ⟨w.heap.size+1,0,none⟩) 1 1) [0] ((w.alloc (.cells (Array.replicate (n+1) (.bool false)) 4)).alloc (.cells #[.int .i64 0] 3))from by
  have hb:Below w.heap.size w ((w.alloc (.cells (Array.replicate (n+1) (.bool false)) 4)).alloc (.cells #[.int .i64 0] 3)):=(al0).alloc (by simp) _;refine⟨⟨v.ri,h.below hb⟩,⟨hb.size,fun b hb' _ _=>hb.block b hb'⟩,hb.mono (by have:=h.lt _ _ h.st.2;omega),?_,zBJ _,?_,fun g hg=>?_⟩
  ·rw[aA1 (heap_alloc_new w _) _];simp[List.map_replicate]
  ·refine⟨by simp[siv], .inr ⟨w.heap.size+1,0,1, #[.int .i64 0],rfl,aC2 w _ _,zBJ _,by simp[maxLen],by simp,fun j u hj=>?_⟩⟩;rw[zBH];simpa[siv]using hj
  ·obtain rfl:w.heap.size+1=g:=by simpa[Value.ownBlock]using hg
   omega)
 have HL0:=kH (S.Lng.start hi (zAC hc) hf);clear h hi hlim hc hf hli et hTL
 go_enter func102,ntmps102
 go_upto_region 5 with(fail)
 clear c3 c6 hdk hmk;obtain⟨X,hX⟩:∃X,X=((w.alloc (.cells (Array.replicate (n+1) (.bool false)) 4)).alloc (.cells #[.int .i64 0] 3)):=⟨_,rfl⟩;rw[<-hX]at HM⊢;clear hX;have c6:X.cell? ⟨Sb,6,none⟩=some (.slice (some ⟨gt,ot,none⟩) TL ct):=by
  obtain⟨ri,hs⟩:=HM.out.sat;rw[hs.c6,<-HTL.out];exact congrArg some Het.out
 have hTI:IntKind.i64.wrap ((TL:Int)-1)=(TL:Int)-1:=IntWalk.i64_in _ (by omega);go_wp2
 go_quiet (fail)
 obtain⟨Z,hZ⟩:∃Z,Z=X.drewN nq:=⟨_,rfl⟩;have HMZ:=kH (HM.out.dr (⟨nq,hZ⟩:Dr X Z));rw[<-hZ];clear hZ c6 HM;go_wp2
 go_loopg [7,8,9,10,11] (TL+1) (fun g i7 i8 i9 i10 i11 wr=>∃(seen:List Bool) (rest:List Int) (at1:Nat) (told:Int) (k1:Nat) (d:List Int) (A:Option Addr) (cap:Nat),i7= .slice A (rest.length+1) cap/\i8= .int .i64 ((S.opens s seen at1:Nat):Int)/\i9= .int .i64 ((at1:Int)-1)/\i10= .int .i64 (k1:Int)/\i11= .int .i64 told/\g=at1+1/\at1<=TL/\Hid (s.cls[k1]? =some d/\S.Lng n s c seen rest at1 told d)/\Hid (LM w B0 Sb n tg v s w.heap.size seen (.slice A (rest.length+1) cap) (0 :: rest) wr))
 case atStart=>exact⟨_, [],TL,0,k,c,_,1,rfl,by rw[aZo];rfl,rfl,rfl,rfl,rfl,zBJ _,kH ⟨Hc.out,by rw[<-HTL.out];exact HL0.out⟩,HMZ⟩
 case round=>
  obtain⟨seen,rest,at1,told,k1,d,A,cap,rfl,rfl,rfl,rfl,rfl,hgk,hat,H1,H2⟩:=hrel;have Hgk:=kH hgk;clear hgk HL0 HMZ;obtain⟨gO,rfl⟩:∃g,g=gk:=⟨_,rfl⟩;obtain⟨w1,rfl⟩:∃x,x=wr:=⟨_,rfl⟩;have hcla:=Hi.out.cla d (zAC H1.out.1);have hd2:=hcla.two;have hkl:=(zAA.1 H1.out.1).1;obtain⟨ri1,hs1⟩:=H2.out.sat;obtain⟨gc,oc,cc,gu,ou,cu,q1,q2,q3,q4,q5,q6,q7⟩:=hs1.clause H1.out.1 (by omega);have q1':v.cl= .slice (some ⟨gc,oc,none⟩) s.cls.length cc:=q1;have c0:w1.cell? ⟨Sb,0,none⟩=some (.slice (some ⟨gc,oc,none⟩) s.cls.length cc):=by rw[hs1.c0];exact congrArg some q1'
  obtain⟨DL,hDL⟩:∃DL,d.length=DL:=⟨_,rfl⟩;obtain⟨CS,hCS⟩:∃CS,s.cls.length=CS:=⟨_,rfl⟩;have hrl:rest.length<=4000:=by
   have h1:=S.aDu H1.out.2.rd (n:=n) (fun x hx=>by
    obtain⟨y,hy,rfl⟩:=zBU.1 hx;exact S.aBh ((H1.out.2.rs y).1 hy).1)
   rw[zAY]at h1;omega
  have hgul:=(hs1.lt gu _ q5).2;rw[hDL]at q2 hd2 q6;rw[hCS]at c0 hkl;have Hq3:=kH q3;have Hq5:=kH (And.intro q5 hgul);have HDL:=kH hDL;have Hcla:=kH hcla;have hkI:(k1:Int) <(CS:Int):=by omega
  have hopm:S.opens s seen at1<=at1:=zBK (List.countP_le_length) (by rw[zAZ];omega);clear hcla hs1 q1 q1' q3 q4 q5 hDL hCS hgul;go_wp2;clear c0 q2
  go_loopg [7,8,50] (DL+1) (fun g i7 i8 i50 wx=>∃(i:Nat) (sn:List Bool) (rs:List Int) (A':Option Addr) (cap':Nat),i<=DL/\i7= .slice A' (rs.length+1) cap'/\i8= .int .i64 ((S.opens s sn at1:Nat):Int)/\i50= .int .i64 (i:Int)/\g+i=DL+1/\Hid (S.Lng n s c sn rs at1 told d)/\Hid (∀(j:Nat) (m:Int),j<i->d[j]? =some m->m≠told->s.lvl.getD m.natAbs 0=0\/S.aAs sn m=true)/\Hid (LM w B0 Sb n tg v s w.heap.size sn (.slice A' (rs.length+1) cap') (0 :: rs) wx)/\Hid (wx.heap[gu]? =w1.heap[gu]?))
  case atStart=>exact⟨0,seen,rest,A,cap,zBL _,rfl,rfl,rfl,rfl,kH H1.out.2,kH (fun j m hj=>by omega),H2,kH rfl⟩
  case round=>
   obtain⟨i,sn,rs,A2,cap2,hi,rfl,rfl,rfl,hgi,G1,G2,G3,G4⟩:=hrel;have Hgi:=kH hgi;clear hgi H2;have hrl2:rs.length<=4000:=by
    have h1:=S.aDu G1.out.rd (n:=n) (fun x hx=>by
     obtain⟨y,hy,rfl⟩:=zBU.1 hx;exact S.aBh ((G1.out.rs y).1 hy).1)
    rw[zAY]at h1;omega
   have hopm2:S.opens s sn at1<=at1:=zBK (List.countP_le_length) (by rw[zAZ];omega)
   by_cases hil:i<DL
   ·obtain⟨l,hl⟩:∃l,d[i]? =some l:=⟨_,zAB (by rw[HDL.out];exact hil)⟩;have hlit:=Hcla.out.lit hl;obtain⟨l1,l2,l3⟩:=S.aB1.1 hlit;obtain⟨k3,k4⟩:=S.aBh hlit;have cl:=(aCz G4.out (ou+i)).trans (Hq3.out i l hl);have Habs:=kH (fun W=>aHn l (by omega) (by omega) W);obtain⟨V,hV⟩:∃V,l.natAbs=V:=⟨_,rfl⟩;rw[hV]at Habs k3 k4;have hlen:=G1.out.len;obtain⟨csn,fsn⟩:=G3.out.cseen (k:=V) (by omega);obtain⟨ri,hs⟩:=G3.out.sat;have c4:=hs.c4;have clv:=hs.clvl (i:=V) k4;have Hs:=kH hs;obtain⟨x,hx⟩:∃x,s.lvl.getD V 0=x:=⟨_,rfl⟩;obtain⟨b,hb⟩:∃b,sn.getD V false=b:=⟨_,rfl⟩;rw[hx]at clv;rw[hb]at csn;have Hx:=kH hx;have Hb:=kH hb;have HV:=kH hV;have Hl:=kH hl;have hVI:(V:Int) <(n:Int)+1:=by omega
    clear hlit hs hx hb hV hl hlen;cases h1:(l == told)
    ·have Hne:=kH (show l≠told from by simpa using h1);cases b with
     | true=>
      go_wp2_with fail
      refine(Habs.out _).mono ?_;rintro e w' ⟨rfl,rfl⟩;go_wp2;have hgi:=Hgi.out
      go_roundg (gk-1)
      case measure=>omega
      case rel=>exact⟨i+1,sn,rs,A2,cap2,by omega,rfl,rfl,by simp,by omega,G1,kH (aGo G2.out Hl.out (fun _ h=>h) (fun hne=> .inr (by unfold S.aAs;rw[HV.out];exact Hb.out))),G3,G4⟩
     | false=>
      cases h2:((x:Int)== 0)
      ·have Hx0:=kH (show x≠0 from by intro e;subst e;simp at h2);have hsee:=G1.out.see Hi.out (zAC Hl.out) Hne.out (by unfold S.aAs;rw[HV.out];exact Hb.out) (by rw[HV.out,Hx.out];exact Hx0.out);have hsn:=fun m=>S.aR8 G1.out.len (Hcla.out.lit Hl.out) m
       rw[HV.out]at hsn;rw[HV.out,Hx.out]at hsee;have Hsee:=kH hsee;have Hsn:=kH hsn;have GM:=kH (G3.out.mark Hnone.out HB0.out V);have hgn:gu≠w.heap.size:=fun e=>by have h5:=Hq5.out.1;rw[e,Hnone.out _ (zBJ _)]at h5;cases h5
       have GU:=kH ((Below.heap_setCell wr ⟨w.heap.size,V,none⟩ (.bool true) gu hgn).trans G4.out);obtain⟨ri2,hs2⟩:=GM.out.sat;have Hbump:=kH (aY1 hs2 hn (k:=V) k4);clear hsee hsn hgn hs2
       go_wp2_with fail
       refine(Habs.out _).mono ?_;rintro e w' ⟨rfl,rfl⟩
       go_wp2_with fail
       refine Hbump.out.mono ?_;rintro e w2 ⟨rfl,ri3,b1,b2,b3⟩;have HN:=kH (GM.out.bump Hnone.out b1 b2 b3);have hszu:gu<(wr.setCell ⟨w.heap.size,V,none⟩ (.bool true)).heap.size:=by
        rw[aAf];have h1:=Hq5.out.2;have h2:=Array.getElem?_eq_getElem (xs:=w1.heap) h1;rw[<-G4.out]at h2;exact(gA h2).1
       have HU:=kH ((b2.keep gu hszu (by rw[Hq5.out.1];simp) (by rw[Hq5.out.1];simp)).trans GU.out);have c4:=b1.c4;have c7:w2.cell? ⟨Sb,7,none⟩=some (.slice Af s.lim.length cf):=by rw[b1.c7];exact congrArg some Hli.out
       have clv:=b1.clvl (i:=V) k4;rw[Hx.out]at clv;clear b1 b2 b3 hszu csn fsn cl Hbump GM GU;cases h3:((x:Int)==(s.lim.length:Int))
       ·have Hxl:=kH (show¬x=s.lim.length from by intro e;rw[e]at h3;simp at h3);go_wp2
        go_quiet (fail)
        obtain⟨Z2,hZ2⟩:∃Z2,Z2=w2.drewN nq:=⟨_,rfl⟩;have HNZ:=kH (HN.out.dr (⟨nq,hZ2⟩:Dr w2 Z2));have HUZ:=kH (show Z2.heap[gu]? =w1.heap[gu]? from by rw[hZ2];exact HU.out);rw[<-hZ2];clear hZ2 HN HU c4 c7 clv;have Ho:=kH HNZ.out.out
        go_wp2_with (at_builtin;go_loud (refine aAk Z2 rfl (.tmp 96) (.tmp 98) 37 rfl 3 (.int .i64 0) 8 underlying37 Tryz.sinfoInt rfl (.slice A2 (rs.length+1) cap2) (rs.length+1) _ rfl Ho.out (.int .i64 l) rfl 3 rfl (by omega) (by omega) ?_);intro v' w4 hown' hgr hat4;obtain⟨Av,cv,hv⟩:=hown'.form;subst hv;have HP:=kH (HNZ.out.push Hnone.out HB0.out hown' hgr hat4);have HPU:=kH ((hgr.block gu (bB4 HUZ.out Hq5.out.2) (fun e=>by have h6:=(HNZ.out.ot gu e.symm).1;rw[Hnone.out gu h6]at Hq5;exact absurd Hq5.out.1 (by simp))).trans ((Below.heap_alloc Z2 _ gu (gu_lt HUZ.out Hq5.out.2)).trans HUZ.out));clear hown' hgr hat4)
        rw[if_neg Hxl.out]at Hsee;rw[if_neg Hxl.out]at Hsee;have hgi:=Hgi.out;have e9:rs.length+1=(rs ++ [l]).length:=by simp
        rw[e9]at HP⊢
        go_roundg (gk-1)
        case measure=>omega
        case rel=>exact⟨i+1,sn.set V true,rs ++ [l],Av,cv,by omega,rfl,by rw[Hsee.out.2];rfl,by simp,by omega,kH Hsee.out.1,kH (aGo G2.out Hl.out (fun m h=>(Hsn.out m).2 (.inr h)) (fun _=> .inr ((Hsn.out l).2 (.inl HV.out)))),HP,HPU⟩
       ·have Hxl:=kH (show x=s.lim.length from by have:=eq_of_beq h3;omega);go_wp2
        go_quiet (fail)
        obtain⟨Z2,hZ2⟩:∃Z2,Z2=w2.drewN nq:=⟨_,rfl⟩;have HNZ:=kH (HN.out.dr (⟨nq,hZ2⟩:Dr w2 Z2));have HUZ:=kH (show Z2.heap[gu]? =w1.heap[gu]? from by rw[hZ2];exact HU.out);rw[<-hZ2];clear hZ2 HN HU c4 c7 clv;go_wp2;have hsee:=Hsee.out;rw[if_pos Hxl.out,if_pos Hxl.out]at hsee;have hgi:=Hgi.out
        go_roundg (gk-1)
        case measure=>omega
        case rel=>exact⟨i+1,sn.set V true,rs,A2,cap2,by omega,rfl,by rw[hsee.2];simp,by simp,by omega,kH hsee.1,kH (aGo G2.out Hl.out (fun m h=>(Hsn.out m).2 (.inr h)) (fun _=> .inr ((Hsn.out l).2 (.inl HV.out)))),HNZ,HUZ⟩
      ·have Hx0:=kH (show x=0 from by have:=eq_of_beq h2;omega)
       go_wp2_with fail
       refine(Habs.out _).mono ?_;rintro e w' ⟨rfl,rfl⟩;go_wp2;have hgi:=Hgi.out
       go_roundg (gk-1)
       case measure=>omega
       case rel=>exact⟨i+1,sn,rs,A2,cap2,by omega,rfl,rfl,by simp,by omega,G1,kH (aGo G2.out Hl.out (fun _ h=>h) (fun hne=> .inl (by rw[HV.out,Hx.out];exact Hx0.out))),G3,G4⟩
    ·have He:=kH (show l=told from eq_of_beq h1)
     go_wp2_with fail
     refine(Habs.out _).mono ?_;rintro e w' ⟨rfl,rfl⟩;go_wp2;have hgi:=Hgi.out
     go_roundg (gk-1)
     case measure=>omega
     case rel=>exact⟨i+1,sn,rs,A2,cap2,by omega,rfl,rfl,by simp,by omega,G1,kH (aGo G2.out Hl.out (fun _ h=>h) (fun hne=>absurd He.out hne)),G3,G4⟩
   ·obtain rfl:i=DL:=by omega
    have hprd:S.Prd s sn d told:=fun m hm hne=>by
     obtain⟨j,hj⟩:=zAG hm;exact G2.out j m (by rw[<-HDL.out];exact(zAA.1 hj).1) hj hne
    obtain⟨hcf,hop⟩:=G1.out.looked Hi.out Hlim.out (zAC Hc.out) Hf.out hprd;have hpos:0<at1:=by
     apply Nat.pos_of_ne_zero;intro e;rw[e,S.aNm]at hop;omega
    obtain⟨a1,rfl⟩:∃a1,at1=a1+1:=⟨at1-1,by omega⟩;have Hprd:=kH hprd;have Hcf:=kH hcf;obtain⟨ri,hs⟩:=G3.out.sat;have c6:wr.cell? ⟨Sb,6,none⟩=some (.slice (some ⟨gt,ot,none⟩) TL ct):=by rw[hs.c6,<-HTL.out];exact congrArg some Het.out
    have het3:({v with ri:=ri}:Sv).tr= .slice (some ⟨gt,ot,none⟩) s.trl.length ct:=Het.out;have Hs:=kH hs;have Het3:=kH het3;obtain⟨w3,rfl⟩:∃x,x=wr:=⟨_,rfl⟩;obtain⟨OP,hOP⟩:∃OP,S.opens s sn (a1+1)=OP:=⟨_,rfl⟩;rw[hOP]at hop hopm2⊢;rw[show(((a1+1:Nat):Int)-1)=(a1:Int) by omega];have HOP:=kH hOP;have hgO:=Hgk;clear hprd hcf hs het3 hOP Hgi Hgk hpos hd2 hkl q6 hkI hopm G4;go_wp2
    go_loopg [9] (a1+1) (fun g i9 wy=>∃q:Nat,q<=a1/\i9= .int .i64 (q:Int)/\g=q+1/\wy=w3/\Hid (∀(i:Nat) (u:Int),q<i->i<a1+1->s.trl[i]? =some u->S.aAs sn u=false)/\Hid (S.opens s sn (q+1)=OP))
    case atStart=>exact⟨a1,zBJ _,rfl,rfl,rfl,kH (fun i u h1 h2=>by omega),HOP⟩
    case round=>
     obtain⟨q,hq,rfl,hgq,hwy,G5,G6⟩:=hrel;subst hwy;have Hgq:=kH hgq;clear hgq;obtain⟨t,ht⟩:∃t,s.trl[q]? =some t:=⟨_,zAB (by have:=HTL.out;omega)⟩;have htl:=Hi.out.trl.lits t (zAC ht);obtain⟨l1,l2,l3⟩:=S.aB1.1 htl;obtain⟨k3,k4⟩:=S.aBh htl;have ct':=Hs.out.ctrl Het3.out (i:=q) ht;have Habs:=kH (fun W=>aHn t (by omega) (by omega) W);obtain⟨V,hV⟩:∃V,t.natAbs=V:=⟨_,rfl⟩;rw[hV]at Habs k3 k4;obtain⟨csn,fsn⟩:=G3.out.cseen (k:=V) (by have:=G1.out.len;omega);obtain⟨b,hb⟩:∃b,sn.getD V false=b:=⟨_,rfl⟩;rw[hb]at csn;have hst:S.aAs sn t=b:=by unfold S.aAs;rw[hV];exact hb
     have hos:=S.aWp (s:=s) (seen:=sn) (at1:=q) (by have:=HTL.out;omega) ht;have Hst:=kH hst;have HV:=kH hV;have Ht:=kH ht;have hVI:(V:Int) <(n:Int)+1:=by omega
     have hqI:(q:Int) <(TL:Int):=by omega
     rw[G6.out,hst]at hos;have Hos:=kH hos;clear hb hst hV ht hos htl;cases b with
     | false=>
      have hq0:0<q:=by
       have h1:=Hos.out;apply Nat.pos_of_ne_zero;intro e;subst e;rw[S.aNm]at h1;simp at h1;omega
      obtain⟨q1,rfl⟩:∃q1,q=q1+1:=⟨q-1,by omega⟩
      go_wp2_with fail
      refine(Habs.out _).mono ?_;rintro e w' ⟨rfl,rfl⟩;go_wp2;have hgq:=Hgq.out
      go_roundg (gk-1)
      case measure=>omega
      case rel=>
       have hos:=Hos.out;refine⟨q1,by omega,by simp,by omega,rfl,kH fun i u h1 h2 h3=>?_,kH (by simpa using hos.symm)⟩;rcases Nat.lt_or_ge (q1+1) i with h4 | h4
       ·exact G5.out i u h4 h2 h3
       ·obtain rfl:i=q1+1:=by omega
        rw[Ht.out]at h3;obtain rfl:=zAH h3;exact Hst.out
     | true=>
      have hlv:=S.aWq Hi.out (seen:=sn) (at1:=q) (by have:=HTL.out;omega) Ht.out (by rw[G6.out];exact hop);have hos:=Hos.out;rw[if_pos ⟨rfl,hlv⟩]at hos;obtain⟨oq,hoq⟩:∃oq,S.opens s sn q=oq:=⟨_,rfl⟩;rw[hoq]at hos;subst hos;have Hoq:=kH hoq;have Hlv:=kH hlv;have hoI:((oq+1:Nat):Int)-1=(oq:Int):=by omega
      clear hlv hoq
      go_wp2_with fail
      refine(Habs.out _).mono ?_;rintro e w' ⟨rfl,rfl⟩;cases h0:((oq:Int)== 0)
      ·have Hn0:=kH (show 0<oq from by
        apply Nat.pos_of_ne_zero;intro e;subst e;simp at h0)
       obtain⟨kk,dd,e1,e2,e3⟩:=G1.out.next Hi.out (at2:=q) (by omega) Ht.out Hst.out G5.out Hlv.out Hprd.out Hcf.out (by rw[Hoq.out];exact Hn0.out);have c5:=Hs.out.c5;have crs:=Hs.out.crsn (i:=V) k4;rw[HV.out]at e1;rw[show(s.rsn.getD V 0)=(kk:Int)from e1]at crs;have He:=kH (And.intro e2 e3);clear e1 e2 e3;go_wp2
       go_quiet ((go_at_call 135;exact aD3 (Habs.out _)))
       obtain⟨Z2,hZ2⟩:∃Z2,Z2=wr.drewN nq:=⟨_,rfl⟩;have HNZ:=kH (G3.out.dr (⟨nq,hZ2⟩:Dr wr Z2));rw[<-hZ2];clear hZ2;go_wp2;have hgO':=hgO.out
       go_roundg (q+1)
       case measure=>omega
       case rel=>exact⟨sn,rs,q,t,kk,dd,A2,cap2,rfl,by rw[Hoq.out],rfl,rfl,rfl,rfl,by omega,He,HNZ⟩
      ·have Hn0:=kH (show oq=0 from by have:=eq_of_beq h0;omega);have hwh:=G1.out.whole Hi.out (zAC Hc.out) Hf.out (at2:=q) (by omega) Ht.out Hst.out G5.out Hlv.out Hprd.out Hcf.out (by rw[Hoq.out];exact Hn0.out);have Hwh:=kH hwh;obtain⟨go,oo,co,e1,-,-,e4,e5⟩:=aAg G3.out.out (j:=0) (u:= .int .i64 0) rfl;injection e1 with e1 _ e6
       subst e1 e6;obtain⟨cw,fw⟩:=G3.out.cout (j:=0) (x:=0) rfl;rw[zBI]at cw;have fw0:=fw oo;have HS1:=kH (show LM w B0 Sb n tg v s w.heap.size sn (.slice (some ⟨go,oo,none⟩) (rs.length+1) cap2) (-t :: rs) (wr.setCell ⟨go,oo,none⟩ (.int .i64 (-t)))from G3.out.setOut (by simp) Hnone.out HB0.out (j:=0) (by omega) (-t));obtain⟨RL,hRL⟩:∃RL,rs.length=RL:=⟨_,rfl⟩;have HRL:=kH hRL;rw[hRL]at HS1⊢;rw[List.length_cons,hRL]at e4;have hrl3:RL<=4000:=by omega
       have hRI:((RL+1:Nat):Int)=(RL:Int)+1:=rfl;have h1I:(1:Int)<=(RL:Int)+1:=by omega
       have h0I:(0:Int) <(RL:Int)+1:=by omega
       clear hwh hRL fw hrl2
       go_upto_region 26 with(fail)
       obtain⟨Y,hY⟩:∃Y,Y=wr.setCell ⟨go,oo,none⟩ (.int .i64 (-t)):=⟨_,rfl⟩;rw[<-hY]at HS1⊢;clear hY cw fw0 G3 csn fsn ct' c6;have hwr:∀m∈rs,S.val s.val m= -1/\s.lvl.getD m.natAbs 0<s.lim.length/\1<=s.lvl.getD m.natAbs 0:=Hwh.out.2.2.1;have hlits:∀m∈rs,S.isLit n m=true:=fun m hm=>zAD.1 Hwh.out.1 m (zAQ _ hm)
       have Hwr:=kH hwr;have Hlits:=kH hlits;have hF0:=S.Fro.start (s:=s) Hlim.out rs;have HF0:=kH hF0;clear hwr hlits hF0
       by_cases hco:cap2=1
       ·have hRL0:RL=0:=by omega
        subst hco;go_wp2;clear hopm2 hop
        go_loopg [15,143] (RL+1) (fun g i15 i143 wz=>∃(i bk:Nat) (r:List Int),i<=RL/\bk<=4000/\i15= .int .i64 (bk:Int)/\i143= .int .i64 (i:Int)/\g+i=RL+1/\Hid (S.Fro s rs r i bk)/\Hid (LM w B0 Sb n tg v s w.heap.size sn (.slice (some ⟨go,oo,none⟩) (RL+1) 1) (-t :: r) wz))
        case atStart=>exact⟨0,0,rs,zBL _,by omega,rfl,rfl,rfl,HF0,HS1⟩
        case round=>
         obtain⟨i,bk,r,hi,hbk,rfl,rfl,hgi,F1,F2⟩:=hrel;have Hgi:=kH hgi;clear hgi HF0 HS1;have hrr:r.length=RL:=by rw[F1.out.perm.length_eq];exact HRL.out
         by_cases hil:i<RL
         ·omega
         ·obtain rfl:i=RL:=by omega
          have Hfin:=kH (F1.out.fin (by omega) Ht.out Hlv.out Hwh.out);go_wp2;refine bodyPost_ret (results_tmp2 rfl _ _ _) rfl ?_;obtain⟨ri,hs⟩:=F2.out.sat;have ho:=F2.out.out;refine⟨some ⟨go,oo,none⟩,1,-t,r,bk,ri,by rw[hrr];rfl,hs,F2.out.bl,?_,fun g hg=>(F2.out.ot g (by rw[hrr]at hg;exact hg)).1,Hfin.out⟩;rw[hrr];rw[List.length_cons,hrr]at ho;exact ho
       ·go_wp2;clear hopm2 hop
        go_loopg [15,143] (RL+1) (fun g i15 i143 wz=>∃(i bk:Nat) (r:List Int),i<=RL/\bk<=4000/\i15= .int .i64 (bk:Int)/\i143= .int .i64 (i:Int)/\g+i=RL+1/\Hid (S.Fro s rs r i bk)/\Hid (LM w B0 Sb n tg v s w.heap.size sn (.slice (some ⟨go,oo,none⟩) (RL+1) cap2) (-t :: r) wz))
        case atStart=>exact⟨0,0,rs,zBL _,by omega,rfl,rfl,rfl,HF0,HS1⟩
        case round=>
         obtain⟨i,bk,r,hi,hbk,rfl,rfl,hgi,F1,F2⟩:=hrel;have Hgi:=kH hgi;clear hgi HF0 HS1;have hrr:r.length=RL:=by rw[F1.out.perm.length_eq];exact HRL.out
         by_cases hil:i<RL
         ·obtain⟨l,hl⟩:∃l,r[i]? =some l:=⟨_,zAB (by omega)⟩;obtain⟨a0,ha0⟩:∃a,r[0]? =some a:=⟨_,zAB (by omega)⟩;have hlm:=F1.out.perm.mem_iff.1 (zAC hl);obtain⟨l1,l2,l3⟩:=S.aB1.1 (Hlits.out l hlm);obtain⟨k3,k4⟩:=S.aBh (Hlits.out l hlm);obtain⟨m1,m2,m3⟩:=Hwr.out l hlm;have cl:=(F2.out.cout (j:=i+1) (x:=l) hl).1;have ca:=(F2.out.cout (j:=1) (x:=a0) ha0).1;have fo:=(F2.out.cout (j:=1) (x:=a0) ha0).2;rw[show oo+(i+1)=oo+1+i by omega]at cl;have Habs:=kH (fun W=>aHn l (by omega) (by omega) W);obtain⟨V,hV⟩:∃V,l.natAbs=V:=⟨_,rfl⟩;rw[hV]at Habs k3 k4 m2 m3;obtain⟨ri,hs⟩:=F2.out.sat;have c4:=hs.c4;have clv:=hs.clvl (i:=V) k4;obtain⟨x,hx⟩:∃x,s.lvl.getD V 0=x:=⟨_,rfl⟩;rw[hx]at clv m2 m3;have Hl:=kH hl;have Ha0:=kH ha0;have HV:=kH hV;have Hx:=kH hx;have hVI:(V:Int) <(n:Int)+1:=by omega
          have hxm:x<=4000:=by omega
          clear hl ha0 hV hx hs hlm m1;cases h3:decide (bk<x)
          ·have Hxb:=kH (show x<=bk from by have:=of_decide_eq_false h3;omega);have h3':decide ((bk:Int) <(x:Int))=false:=by have:=Hxb.out;simp;omega
           go_wp2
           go_quiet ((go_at_call 135;exact aD3 (Habs.out _)))
           obtain⟨Z2,hZ2⟩:∃Z2,Z2=wr.drewN nq:=⟨_,rfl⟩;have HNZ:=kH (F2.out.dr (⟨nq,hZ2⟩:Dr wr Z2));rw[<-hZ2];clear hZ2;go_wp2;have hgi:=Hgi.out
           go_roundg (gk-1)
           case measure=>omega
           case rel=>exact⟨i+1,bk,r,by omega,hbk,rfl,by simp,by omega,kH (F1.out.keep Hl.out (by rw[HV.out,Hx.out];exact Hxb.out) (by rw[HV.out,Hx.out];exact m3)),HNZ⟩
          ·have Hxb:=kH (show bk<x from by have:=of_decide_eq_true h3;omega);have h3':decide ((bk:Int) <(x:Int))=true:=by have:=Hxb.out;simp;omega
           go_wp2
           go_quiet ((go_at_call 135;exact aD3 (Habs.out _)))
           obtain⟨Z2,hZ2⟩:∃Z2,Z2=wr.drewN nq:=⟨_,rfl⟩;have HNZ:=kH (F2.out.dr (⟨nq,hZ2⟩:Dr wr Z2));rw[<-hZ2];clear hZ2 cl ca fo c4 clv;obtain⟨ri,hs⟩:=HNZ.out.sat;have c4:=hs.c4;have clv:=hs.clvl (i:=V) k4;rw[Hx.out]at clv;clear hs;go_wp2
           go_quiet ((go_at_call 135;exact aD3 (Habs.out _)))
           obtain⟨Z3,hZ3⟩:∃Z3,Z3=Z2.drewN nq:=⟨_,rfl⟩;have HN3:=kH (HNZ.out.dr (⟨nq,hZ3⟩:Dr Z2 Z3));rw[<-hZ3];clear hZ3 c4 clv;have cl:=(HN3.out.cout (j:=i+1) (x:=l) Hl.out).1;have ca:=(HN3.out.cout (j:=1) (x:=a0) Ha0.out).1;have fo:=(HN3.out.cout (j:=1) (x:=a0) Ha0.out).2;have fo1:=fo (oo+1);have fo2:=fo (oo+(i+1));have HA:=kH (HN3.out.setOut (by simp[hrr]) Hnone.out HB0.out (j:=1) (by omega) l);have HB:=kH (HN3.out.setOut (by simp[hrr]) Hnone.out HB0.out (j:=i+1) (by omega) a0);have hsw:∀(q:Nat) (y:Int) (q':Nat),q'<RL+1->∃z,((-t :: r).set q y)[q']? =some z:=fun q y q' hq=>⟨_,zAB (by simp[hrr];omega)⟩
           obtain⟨z1,hz1⟩:=hsw 1 l (i+1) (by omega);obtain⟨z2,hz2⟩:=hsw (i+1) a0 1 (by omega);obtain⟨ca1,fa1⟩:=HA.out.cout hz1;obtain⟨cb1,fb1⟩:=HB.out.cout hz2;have fa2:=fa1 (oo+(i+1));have fb2:=fb1 (oo+1);have HF:=kH (HA.out.setOut (by simp[hrr]) Hnone.out HB0.out (j:=i+1) (by omega) a0);have hi1I:(i:Int)+1<(RL:Int)+1:=by omega
           have hr0I:(1:Int) <(RL:Int)+1:=by omega
           clear fo fa1 fb1 hz1 hz2 hsw HA HB;go_wp2
           go_region
           have HG:=kH (show LM w B0 Sb n tg v s w.heap.size sn (.slice (some ⟨go,oo,none⟩) (RL+1) cap2) (-t ::((r.set 0 l).set i a0)) _ from HF.out.dr ((Dr.refl _).drew));have hgi:=Hgi.out;clear cl ca fo1 fo2 ca1 cb1 fa2 fb2 HF;go_wp2
           go_roundg (gk-1)
           case measure=>omega
           case rel=>exact⟨i+1,x,(r.set 0 l).set i a0,by omega,hxm,rfl,by simp,by omega,kH (by have hs:=F1.out.swap Ha0.out Hl.out (by rw[HV.out,Hx.out];exact Hxb.out) (by rw[HV.out,Hx.out];exact m2);rw[HV.out,Hx.out]at hs;exact hs),HG⟩
         ·obtain rfl:i=RL:=by omega
          have Hfin:=kH (F1.out.fin (by omega) Ht.out Hlv.out Hwh.out);go_wp2;refine bodyPost_ret (results_tmp2 rfl _ _ _) rfl ?_;obtain⟨ri,hs⟩:=F2.out.sat;have ho:=F2.out.out;refine⟨some ⟨go,oo,none⟩,cap2,-t,r,bk,ri,by rw[hrr];rfl,hs,F2.out.bl,?_,fun g hg=>(F2.out.ot g (by rw[hrr]at hg;exact hg)).1,Hfin.out⟩;rw[hrr];rw[List.length_cons,hrr]at ho;exact ho
theorem aXj(h:SAt w B0 Sb tg n v s)(hn:n<=4000)(hi:S.Inv n cs0 done p s)(hlim:s.lim≠ []){k:Nat}{c:List Int}(hc:s.cls[k]? =some c)(hf:∀m∈c,S.val s.val m= -1)(hkm:s.cls.length<=900000):
 Calls prog 102 #[.pointer (some ⟨Sb,0,none⟩), .int .i64 (k:Int)] w (aKs w B0 Sb n tg v (cs0 ++ s.lrn) s):=by
 by_cases h10:n<=10
 ·exact aW6 h h10 hi hlim (zAC hc) hf
 ·exact aUi h hn (by omega) hi hlim hc hf hkm
end
section
variable {w : World} {B0 Sb n : Nat} {tg : TgF} {v : Sv} {s : S.Sol}
theorem aSw{W0:World}(H:Hid (SAt w B0 Sb tg n v s))(Hb:Hid (Below B0 W0 w)){P i i1 OL co m cv go oo:Nat}{Av:Option Addr}{tl old:List Value}
 (Hk:Hid (OwnAt w 3 1 (.slice Av m cv) m tl)) (Hkt:Hid (∀g,(Value.slice Av m cv).ownBlock=some g->B0<=g/\tg g=none)) (Ho:Hid (OwnAt w 3 1 (.slice (some ⟨go,oo,none⟩) OL co) OL old))
 (hP:P<2*n+2) (hi1:Hid (i1=i+1)) (hi:i1<=OL) (hm:m+OL<=900000000) (hO1:Hid (∀u∈old,u.oneCell'=true)) (hcap:OL<=co)
 {d:List Deferred} {u1 u2 u3 u8 u9 u10 u11 u12 u13 u14 u15 u16 u17 u18 u19 u20 u21 u22 u23 u24 u25 u26 u27 u28 u29 u30 u31 u32 u33 u34 u35 u36 u37 u38 u39 u40 u41 u42 u43 u44 u45 u46 u47 u48 u49 u50 u51 u52 u53 u54 u55 u56 u57 u58 u59 u60 u61 u62 u63 u64 u65 u66 u67 u68 u69 u70 u71 u72 u73 u74 u75 u76 u77 u78 u79 u80 u81 u82 u83 u84 u85 u86 u87 u88 u89 u90 u91 u92 u93 u94 u95 u96 u97 u98 u99 u100 u101 u102 u103 u104 u105 u106 u107 u108 u109 u110 u111 u112 u113 u114 u115 u116 u117 u118 u119 u120 u121 u122 u123 u124 u125 u126 u127 u128 u129 u130 u131 u132 u133 u134 u135 u136 u137 u138 u139 u140 u141 u142 u143 u144 u145 u146 u147 u148 u149 u150 u151:Value} {Q:Exit->Act->World->Prop}
 (hQ:∀(x125 x126 x127 x128 x129 x130 x131 x132 x133 x134 x135 x136:Value) (Av':Option Addr) (cv':Nat) (w5:World),Hid (OwnAt w5 3 1 (.slice Av' (m+(OL-i1)) cv') (m+(OL-i1)) (tl ++ old.drop i1)/\(w.drew).grownBy w5 (Value.slice Av m cv).ownBlock/\((Value.slice Av' (m+(OL-i1)) cv').ownBlock=(Value.slice Av m cv).ownBlock\/(Value.slice Av' (m+(OL-i1)) cv').ownBlock=some w.heap.size))->
  Q .normal {tmps:= #[.pointer (some ⟨Sb,0,none⟩),u1,u2,u3, .int .i64 (P:Int), .slice (some ⟨go,oo,none⟩) OL co, .slice Av m cv, .int .i64 (i:Int),u8,u9,u10,u11,u12,u13,u14,u15,u16,u17,u18,u19,u20,u21,u22,u23,u24,u25,u26,u27,u28,u29,u30,u31,u32,u33,u34,u35,u36,u37,u38,u39,u40,u41,u42,u43,u44,u45,u46,u47,u48,u49,u50,u51,u52,u53,u54,u55,u56,u57,u58,u59,u60,u61,u62,u63,u64,u65,u66,u67,u68,u69,u70,u71,u72,u73,u74,u75,u76,u77,u78,u79,u80,u81,u82,u83,u84,u85,u86,u87,u88,u89,u90,u91,u92,u93,u94,u95,u96,u97,u98,u99,u100,u101,u102,u103,u104,u105,u106,u107,u108,u109,u110,u111,u112,u113,u114,u115,u116,u117,u118,u119,u120,u121,u122,u123,u124,x125,x126,x127,x128,x129,x130,x131,x132,x133,x134,x135,x136,u137,u138,u139,u140,u141,u142,u143,u144,u145,u146,u147,u148,u149,u150,u151],defers:=d} (w5.setCell ⟨v.wa,P,none⟩ (.slice Av' (m+(OL-i1)) cv'))):
 (Code.region 23 #[{dst:=some 125,op:=Go.Op.move (Go.Operand.tmp 0),type:=95,pos:= "search.go:122",after:= #[],guard:=none},{dst:=some 126,op:=Go.Op.nilCheck (Go.Operand.tmp 125),type:=0,pos:= "search.go:122",after:= #[{on:=0,ground:=Go.Ground.data}],guard:=none},{dst:=some 127,op:=Go.Op.fieldAddr 104 (Go.Operand.tmp 126) 2,type:=0,pos:= "search.go:122",after:= #[{on:=1,ground:=Go.Ground.data}],guard:=none},{dst:=some 128,op:=Go.Op.load 25 (Go.Operand.tmp 127),type:=25,pos:= "search.go:122",after:= #[{on:=2,ground:=Go.Ground.data}],guard:=none},{dst:=some 129,op:=Go.Op.move (Go.Operand.tmp 4),type:=3,pos:= "search.go:122",after:= #[],guard:=none},{dst:=some 130,op:=Go.Op.move (Go.Operand.tmp 6),type:=37,pos:= "search.go:122",after:= #[],guard:=none},{dst:=some 131,op:=Go.Op.move (Go.Operand.tmp 5),type:=37,pos:= "search.go:122",after:= #[],guard:=none},{dst:=some 132,op:=Go.Op.move (Go.Operand.tmp 7),type:=3,pos:= "search.go:122",after:= #[],guard:=none},{dst:=some 133,op:=Go.Op.binOp Go.BinOp.add 3 (Go.Operand.tmp 132) (Go.Operand.const (Go.Value.int Go.IntKind.i64 1)) 3,type:=3,pos:= "search.go:122",after:= #[{on:=7,ground:=Go.Ground.data}],guard:=none},{dst:=some 134,op:=Go.Op.slice 37 (Go.Operand.tmp 131) (some (Go.Operand.tmp 133)) none none,type:=37,pos:= "search.go:122",after:= #[{on:=6,ground:=Go.Ground.data},{on:=8,ground:=Go.Ground.data}],guard:=none},{dst:=some 135,op:=Go.Op.call {callee:=Go.Callee.builtin Go.Builtin.append,args:= #[Go.Operand.tmp 130,Go.Operand.tmp 134],argTypes:= #[37,37]},type:=37,pos:= "search.go:122",after:= #[{on:=5,ground:=Go.Ground.data},{on:=9,ground:=Go.Ground.data}],guard:=none},{dst:=some 136,op:=Go.Op.indexAddr 25 (Go.Operand.tmp 128) (Go.Operand.tmp 129),type:=0,pos:= "search.go:122",after:= #[{on:=3,ground:=Go.Ground.data},{on:=4,ground:=Go.Ground.data},{on:=0,ground:=Go.Ground.phase},{on:=1,ground:=Go.Ground.phase},{on:=2,ground:=Go.Ground.phase},{on:=3,ground:=Go.Ground.phase},{on:=4,ground:=Go.Ground.phase},{on:=5,ground:=Go.Ground.phase},{on:=6,ground:=Go.Ground.phase},{on:=7,ground:=Go.Ground.phase},{on:=8,ground:=Go.Ground.phase},{on:=9,ground:=Go.Ground.phase},{on:=10,ground:=Go.Ground.phase}],guard:=none},{dst:=none,op:=Go.Op.store 37 (Go.Operand.tmp 136) (Go.Operand.tmp 135),type:=0,pos:= "search.go:122",after:= #[{on:=11,ground:=Go.Ground.data},{on:=10,ground:=Go.Ground.data},{on:=10,ground:=Go.Ground.chain},{on:=0,ground:=Go.Ground.phase},{on:=1,ground:=Go.Ground.phase},{on:=2,ground:=Go.Ground.phase},{on:=3,ground:=Go.Ground.phase},{on:=4,ground:=Go.Ground.phase},{on:=5,ground:=Go.Ground.phase},{on:=6,ground:=Go.Ground.phase},{on:=7,ground:=Go.Ground.phase},{on:=8,ground:=Go.Ground.phase},{on:=9,ground:=Go.Ground.phase},{on:=10,ground:=Go.Ground.phase}],guard:=none}] true).wp prog Q {tmps:= #[.pointer (some ⟨Sb,0,none⟩),u1,u2,u3, .int .i64 (P:Int), .slice (some ⟨go,oo,none⟩) OL co, .slice Av m cv, .int .i64 (i:Int),u8,u9,u10,u11,u12,u13,u14,u15,u16,u17,u18,u19,u20,u21,u22,u23,u24,u25,u26,u27,u28,u29,u30,u31,u32,u33,u34,u35,u36,u37,u38,u39,u40,u41,u42,u43,u44,u45,u46,u47,u48,u49,u50,u51,u52,u53,u54,u55,u56,u57,u58,u59,u60,u61,u62,u63,u64,u65,u66,u67,u68,u69,u70,u71,u72,u73,u74,u75,u76,u77,u78,u79,u80,u81,u82,u83,u84,u85,u86,u87,u88,u89,u90,u91,u92,u93,u94,u95,u96,u97,u98,u99,u100,u101,u102,u103,u104,u105,u106,u107,u108,u109,u110,u111,u112,u113,u114,u115,u116,u117,u118,u119,u120,u121,u122,u123,u124,u125,u126,u127,u128,u129,u130,u131,u132,u133,u134,u135,u136,u137,u138,u139,u140,u141,u142,u143,u144,u145,u146,u147,u148,u149,u150,u151],defers:=d} w:=by
 have HS:=kH (H.out.dr ((Dr.refl w).drew));have HB:=kH (Hb.out.dr ((Dr.refl w).drew));have Hk5:=kH (Hk.out.below (((Dr.refl w).drew).below w.heap.size) Hk.out.lt);have Ho5:=kH (Ho.out.below (((Dr.refl w).drew).below w.heap.size) Ho.out.lt);have hpw:P<s.wat.length:=by rw[H.out.nw];exact hP
 have Hpw:=kH hpw;have hA2:(if co=i1 then some (⟨go,oo,none⟩:Addr)else some ⟨go,oo+i1,none⟩)=if co=i1 then some ⟨go,oo,none⟩else some ⟨go,oo+i1,none⟩:=rfl
 have Htl:=kH (bBo Ho5.out hA2);have HL1:=kH (show(old.drop i1).length=(OL-i1)*1 from by rw[List.length_drop,Ho.out.1];omega);have HO1':=kH (show∀u∈old.drop i1,u.oneCell'=true from fun u hu=>hO1.out u (List.mem_of_mem_drop hu));have hcap2:co<=9223372036854775807:=(aOo Ho.out).2;have hwi:IntKind.i64.wrap ((i:Int)+1)=(i1:Int):=by
  rw[show(i:Int)+1=(i1:Int) by have:=hi1.out;omega];exact IntWalk.i64_in _ (by omega)
 have hi10:(0:Int)<=(i1:Int):=by omega
 have hi11:(i1:Int)<=(OL:Int):=by omega
 have hkl3:m+(OL-i1)<=1000000000:=by omega
 have hpI:((P:Nat):Int) < 2* (n:Int)+2:=by omega
 have c2:=HS.out.c2;have HQ:=kH hQ;clear hQ hpw hA2 hm hO1 hi;refine wp_mono (Q:=Exit.then (Q .normal) (fun _ _ _=>False)) ?_ (fun e a w h=>by cases e <;> first | exact h | exact h.elim)
 go_region_law (first
  | (refine aBp _ rfl (.tmp 130) (.tmp 134) 37 rfl 3 (.int .i64 0) 1 8 underlying37 Tryz.sinfoInt rfl (by decide) (.slice Av m cv) m tl (by go_simp) Hk5.out (if co = i1 then some ⟨go, oo, none⟩ else some ⟨go, oo + i1, none⟩) (OL - i1) (co - i1) (old.drop i1) (by go_simp) HL1.out Htl.out HO1'.out hkl3 (by decide) ?_
     intro v5 w5 hown5 hgr5 hat5;obtain⟨A5,c5,hv5⟩:=hown5.form;subst hv5;have HG:=kH (HS.out.grown HB.out hgr5 Hkt.out hat5);have Hall:=kH (And.intro hown5 (And.intro hgr5 hat5));clear hown5 hgr5 hat5;have kc2:=HG.out.1.c2;obtain⟨⟨A6,m6,c6,kc6⟩,kf6⟩:=HG.out.1.watCell Hpw.out))
 all_goals exact HQ.out _ _ _ _ _ _ _ _ _ _ _ _ _ _ _ Hall
end
section
variable {w w0 : World} {B0 Sb n : Nat} {tg : TgF} {v : Sv} {s s0 : S.Sol} {cs0 done : List (List Int)}
theorem aZp{p:Nat}{W:Int}{old:List Nat}{i k OL m cv cv':Nat}{kept:List Nat}{ko:Value}{Av Av':Option Addr}{w5:World}{c:List Int}{a:Int}(h:PM w0 B0 Sb n s0 p old (i+1) (kept ++ [k]) ko (.slice Av m cv) s tg v w)(hlp:S.Lp n cs0 done p W old i kept s)
 (hi:old[i]? =some k) (hc:s.cls[k]? =some c) (h0:c[0]? =some a) (h1:c[1]? =some W) (hv:S.val s.val a= -1) (hf:∀j m,2<=j->c[j]? =some m->S.val s.val m= -1) (hOL:old.length=OL) (hm:m=kept.length+1)
 (hall:Hid (OwnAt w5 3 1 (.slice Av' (m+(OL- (i+1))) cv') (m+(OL- (i+1))) (snv (kept ++ [k])++(snv old).drop (i+1))/\(w.drew).grownBy w5 (Value.slice Av m cv).ownBlock/\((Value.slice Av' (m+(OL- (i+1))) cv').ownBlock=(Value.slice Av m cv).ownBlock\/(Value.slice Av' (m+(OL- (i+1))) cv').ownBlock=some w.heap.size))):
 aSb w0 B0 Sb n cs0 done s0 (.returned (.int .i64 (k:Int))) (w5.setCell ⟨v.wa,S.pl W,none⟩ (.slice Av' (m+(OL- (i+1))) cv')):=by
 obtain⟨a1,a2,a3⟩:=hall.out;have hs:=h.sat.dr ((Dr.refl w).drew);have hb:=h.bl.dr ((Dr.refl w).drew);obtain⟨g1,g2,g3,g4⟩:=hs.grown hb a2 h.kt a3;have hol:=(zAA.1 hi).1;have e1:(kept ++ [k]++ old.drop (i+1)).length=m+(OL- (i+1)):=by simp;omega
 have e2:snv (kept ++ [k]++ old.drop (i+1))=snv (kept ++ [k])++(snv old).drop (i+1):=by rw[aLd];unfold snv;rw[List.map_drop]
 obtain⟨tg',p1,p2⟩:=g1.putOwn g2 (p:=S.pl W) (l:=kept ++ [k]++ old.drop (i+1)) (u:= .slice Av' (m+(OL- (i+1))) cv') (by rw[e1,e2];exact a1) g3;obtain⟨q1,q2⟩:=hlp.clash hi hc h0 h1 hv hf;have hpt:p<s.trl.length:=(zAA.1 hlp.at_).1;exact⟨tg',v,_,p1,p2,⟨h.sm.lim,h.sm.lrn,h.sm.cl⟩, .inr ⟨k,p,c,rfl,hc,q2,q1,h.nx,by show s.nxt<=s.trl.length;rw[h.nx];omega⟩⟩
end
section
variable {w w0 : World} {B0 Sb n : Nat} {tg : TgF} {v : Sv} {s s0 : S.Sol} {cs0 done : List (List Int)}
theorem aOx(h:SAt w B0 Sb tg n v s)(hn:n<=4000)(hi:S.Inv n cs0 done s.nxt s)(hcm:s.cls.length<=900000):
 Calls prog 99 #[.pointer (some ⟨Sb,0,none⟩)] w (aSb w B0 Sb n cs0 done s):=by
 have H0:=kH (show PO w B0 Sb n cs0 done s s tg v w from⟨h,Below.refl _ _,S.Sm.refl _,hi⟩);have hnx:s.nxt<=n:=zBK hi.p1 hi.trl.size;clear h hi
 go_enter func99,ntmps99
 go_wp2
 go_loopg [] (n+1-s.nxt) (fun g wr=>∃(s1:S.Sol) (tg1:TgF) (v1:Sv),g+s1.nxt=n+1/\Hid (PO w B0 Sb n cs0 done s s1 tg1 v1 wr))
 case atStart=>exact⟨s,tg,v,by omega,H0⟩
 case round=>
  obtain⟨s1,tg1,v1,hgk,H1⟩:=hrel;have Hgk:=kH hgk;clear hgk H0;have hts:=H1.out.inv.trl.size;have hpt:=H1.out.inv.p1;obtain⟨At,ct,htr⟩:=H1.out.sat.tr.1.form;have c6:wr.cell? ⟨Sb,6,none⟩=some (.slice At s1.trl.length ct):=by rw[H1.out.sat.c6,htr]
  have c8:=H1.out.sat.c8;have f8:=H1.out.sat.st.frz 8;obtain⟨p,hp⟩:∃p,s1.nxt=p:=⟨_,rfl⟩;obtain⟨TL,hTL⟩:∃TL,s1.trl.length=TL:=⟨_,rfl⟩;rw[hp]at c8 hpt;rw[hTL]at c6 hts hpt;have HTL:=kH hTL;have Hp:=kH hp;have Htr:=kH htr;clear hTL hp htr
  by_cases hlt:p<TL
  ·have hdk:decide (p<TL)=true:=by simpa using hlt
   have hdk2:decide ((p:Int) <(TL:Int))=true:=by simp;omega
   obtain⟨t,ht⟩:∃t,s1.trl[p]? =some t:=⟨_,zAB (by rw[HTL.out];exact hlt)⟩;have hlit:=H1.out.inv.trl.lits t (zAC ht);obtain⟨t1,t2,t3⟩:=S.aB1.1 hlit;obtain⟨gt,ot,ct',e1,e2,_,_,_⟩:=aAg H1.out.sat.tr.1 (j:=p) (u:= .int .i64 t) (by unfold siv;rw[zAW,ht];rfl);rw[Htr.out]at e1;injection e1 with e3 _ e4
   subst e3 e4;have Ht:=kH ht;have Hlit:=kH hlit;clear ht hlit c6 c8 f8;have c6:wr.cell? ⟨Sb,6,none⟩=some (.slice (some ⟨gt,ot,none⟩) TL ct):=by rw[H1.out.sat.c6,Htr.out,HTL.out]
   have c8:wr.cell? ⟨Sb,8,none⟩=some (.int .i64 (p:Int)):=by rw[H1.out.sat.c8,Hp.out]
   have f8:=H1.out.sat.st.frz 8;go_wp2
   go_quiet (fail)
   obtain⟨m1,hm1⟩:∃m1,m1=nq:=⟨_,rfl⟩;rw[<-hm1];clear hm1 nq;go_wp2
   go_step3
   go_wp2
   go_quiet (fail)
   go_wp2_with fail
   have HZ:=kH (show SAt ((wr.drewN (m1+nq)).setCell ⟨Sb,8,none⟩ (.int .i64 ((p:Int)+1))) B0 Sb tg1 n v1 {s1 with nxt:=p+1}from(H1.out.sat.dr ((Dr.refl wr).drewN _)).setNxt (p+1));have HZb:=kH (show Below B0 w ((wr.drewN (m1+nq)).setCell ⟨Sb,8,none⟩ (.int .i64 ((p:Int)+1)))from(H1.out.bl.dr ((Dr.refl wr).drewN _)).setCell (p:=⟨Sb,8,none⟩) (H1.out.sat.lt _ _ H1.out.sat.st.2).1 _);obtain⟨Z,hZ⟩:∃Z,Z=(wr.drewN (m1+nq)).setCell ⟨Sb,8,none⟩ (.int .i64 ((p:Int)+1)):=⟨_,rfl⟩;rw[<-hZ]at HZ HZb⊢;clear hZ c6 c8 f8 e2 hdk hdk2;obtain⟨W,hW⟩:∃W,W= -t:=⟨_,rfl⟩;have hWl:S.isLit n W=true:=by rw[hW];exact S.aCf Hlit.out
   have hWt:s1.trl[p]? =some (-W):=by rw[hW,Int.neg_neg];exact Ht.out
   rw[<-hW];have Hlp:=kH (show S.Lp n cs0 done p W (s1.wat.getD (S.pl W) []) 0 [] {s1 with nxt:=p+1}from by
    have h1:=S.Lp.start (s:=s1) (p:=p) (by have:=H1.out.inv;rw[Hp.out]at this;exact this) hWt;exact⟨⟨h1.inv.trl,h1.inv.rln,h1.inv.pln,h1.inv.phs,h1.inv.cla,h1.inv.rsn,h1.inv.wat,h1.inv.ok,h1.inv.p1,h1.inv.p2,h1.inv.cov,h1.inv.prf,h1.inv.lgd,h1.inv.big⟩,h1.at_,h1.ok,h1.lit,h1.wln⟩)
   have hWm:(s1.wat.getD (S.pl W) []).length<=900000:=zBK (H1.out.inv.wat.small hWl) (by have:=H1.out.sm.cl;omega);have Hsm:=kH (show S.Sm s {s1 with nxt:=p+1}from⟨H1.out.sm.lim,H1.out.sm.lrn,H1.out.sm.cl⟩);have hpl:=S.pl_lt hWl;have hwp:s1.wat[S.pl W]? =some (s1.wat.getD (S.pl W) []):=by rw[List.getD,zAB (by have:=HZ.out.nw;simp at this;omega)];rfl
   obtain⟨Ao,co,o1,o2,o3⟩:=HZ.out.watch hwp;obtain⟨old,hold⟩:∃old,old=s1.wat.getD (S.pl W) []:=⟨_,rfl⟩;rw[<-hold]at Hlp hWm o1 o2 o3;obtain⟨P,hP⟩:∃P,S.pl W=P:=⟨_,rfl⟩;have Hpla:=kH (aNo W (by omega) (by omega) Z);rw[hP]at hpl o1 Hpla;have HPl:=kH hP;have HWl:=kH hWl;have c2:=HZ.out.c2;have hpI:((P:Nat):Int) < 2* (n:Int)+2:=by omega
   have Ho2:=kH o2;have Ho3:=kH o3;obtain⟨OL,hOL⟩:∃OL,old.length=OL:=⟨_,rfl⟩;have HPI:=kH (show PI w B0 Sb n cs0 done s p W old 0 [] (.slice Ao old.length co) (.slice none 0 0) {s1 with nxt:=p+1} tg1 v1 Z from
    ⟨HZ.out,HZb.out,Hsm.out,Hlp.out,rfl,o2,o3,OwnAt.nil_ _ _ _,fun g hg=>(by cases hg),zBJ _⟩)
   rw[hOL]at o1 hWm;have HOL:=kH hOL;clear H1 HZ HZb hW hWl hWt Hlp hwp o2 o3 hold hP hOL Ht Hlit Hsm Ho2 Ho3 Htr HTL
   go_wp2_with fail
   refine Hpla.out.mono ?_;rintro e w' ⟨rfl,rfl⟩;clear t1 t2 t3;go_wp2
   go_step3
   go_wp2;clear c2 o1 Hpla;obtain⟨gO,rfl⟩:∃g,g=gk:=⟨_,rfl⟩;have HgO:=Hgk;clear Hgk
   go_loopg [6,50] (OL+1) (fun g i6 i50 wx=>∃(i:Nat) (kept:List Nat) (Ak:Option Addr) (ck:Nat) (s2:S.Sol) (tg2:TgF) (v2:Sv),i<=OL/\i6= .slice Ak kept.length ck/\i50= .int .i64 (i:Int)/\g+i=OL+1/\Hid (PI w B0 Sb n cs0 done s p W old i kept (.slice Ao old.length co) (.slice Ak kept.length ck) s2 tg2 v2 wx))
   case atStart=>exact⟨0, [],none,0,_,tg1,v1,zBL _,rfl,rfl,rfl,HPI⟩
   case round=>
    obtain⟨i,kept,Ak,ck,s2,tg2,v2,hi,rfl,rfl,hgk,H2⟩:=hrel;have Hgk:=kH hgk;clear hgk HPI
    by_cases hil:i<OL
    ·have hol:=HOL.out;obtain⟨k,hki⟩:∃k,old[i]? =some k:=⟨_,zAB (by omega)⟩;obtain⟨c,hc,hw,hcla⟩:=H2.out.lp.look hki;have hc2:=hcla.two;have hkl:=(zAA.1 hc).1;have hclm:s2.cls.length<=900000:=by have:=H2.out.sm.cl;omega
     obtain⟨gc,oc,cc,gu,ou,cu,q1,q2,q3,q4,q5,q6,q7⟩:=H2.out.sat.clause hc (by omega);obtain⟨go,oo,co',r1,r2,_,_,_⟩:=aAg H2.out.old (j:=i) (u:= .int .i64 (k:Int)) (by unfold snv;rw[zAW,hki];rfl);injection r1 with r3 _ r4
     subst r3 r4;obtain⟨x0,hx0⟩:∃x,c[0]? =some x:=⟨_,zAB (by omega)⟩;obtain⟨x1,hx1⟩:∃x,c[1]? =some x:=⟨_,zAB (by omega)⟩;have m0:=q3 0 x0 hx0;have m1:=q3 1 x1 hx1;rw[zBI]at m0;have c0:wr.cell? ⟨Sb,0,none⟩=some (.slice (some ⟨gc,oc,none⟩) s2.cls.length cc):=by rw[H2.out.sat.c0,q1]
     obtain⟨CL,hCL⟩:∃CL,c.length=CL:=⟨_,rfl⟩;obtain⟨CS,hCS⟩:∃CS,s2.cls.length=CS:=⟨_,rfl⟩;rw[hCL]at q2 hc2 q6;rw[hCS]at c0 hkl hclm;have Hq1:=kH q1;have Hq2:=kH q2;have Hki:=kH hki;have Hc:=kH hc;have Hw:=kH hw;have HCL:=kH hCL;have HCS:=kH hCS;have Hx0:=kH hx0;have Hx1:=kH hx1;have hf0:=q4 ou;have hf1:=q4 (ou+1);clear q1 hki hc hw hcla q3 q4 q5 hCL hCS hx0 hx1 hol
     go_upto_if 66 with(fail)
     go_cut [9] (fun s9 wy=>∃(c':List Int) (a:Int) (s3:S.Sol),s9= .slice (some ⟨gu,ou,none⟩) CL cu/\Hid (PI w B0 Sb n cs0 done s p W old i kept (.slice (some ⟨go,oo,none⟩) old.length co) (.slice Ak kept.length ck) s3 tg2 v2 wy)/\Hid (s3.cls[k]? =some c'/\c'[0]? =some a/\c'[1]? =some W/\c'.length=CL/\s3.cls.length=CS)/\Hid (wy.cell? ⟨gc,oc+k,none⟩=some (.slice (some ⟨gu,ou,none⟩) CL cu)))
     case first=>
      by_cases hxw:x0=W
      ·have hb:(x0 == W)=true:=by simpa using hxw
       have hsw:=H2.out.sat.swap Hc.out Hx0.out Hx1.out Hq1.out (by rw[HCL.out];exact Hq2.out);have hsw2:=H2.out.sat.swap Hc.out Hx1.out Hx0.out Hq1.out (by rw[HCL.out];exact Hq2.out);rw[zBI]at hsw hsw2;obtain⟨w1a,w1b,w1c,w1d,⟨z1,w1e⟩,w1f⟩:=hsw;obtain⟨_,_,_,_,⟨z2,w2e⟩,w2f⟩:=hsw2;have HS1:=kH w1a;have HS2:=kH w1b;have HS3:=kH w1c;have HS4:=kH w1d;clear w1a w1b w1c w1d;go_wp2
       go_region
       go_wp2_with fail
       go_meet
       have hsp:=H2.out.lp.swap Hki.out Hc.out (by rw[Hx0.out,hxw]) Hx1.out;rw[hxw]at HS1 HS2 HS3 HS4;have hl0:(c.set 0 x1).length=CL:=by rw[zBC];exact HCL.out
       refine⟨(c.set 0 x1).set 1 W,x1,{s2 with cls:=s2.cls.set k ((c.set 0 x1).set 1 W)},rfl,kH ((H2.out.un HS1.out HS2.out HS3.out ⟨rfl,rfl,by simp⟩ rfl hsp (zBJ _)).same ((Dr.refl _).drew)),kH ⟨?_,?_,?_,by rw[zBC];exact hl0,by simpa using HCS.out⟩,kH ?_⟩
       ·show(s2.cls.set k _)[k]? =_
        rw[List.getElem?_set,if_pos rfl,if_pos (by rw[HCS.out];exact hkl)]
       ·rw[List.getElem?_set,if_neg (by omega),List.getElem?_set,if_pos rfl,if_pos (by rw[HCL.out];omega)]
       ·rw[List.getElem?_set,if_pos rfl,if_pos (by rw[hl0];omega)]
       ·have:=HS4.out;rw[HCL.out]at this;exact this
      ·have hb:(x0 == W)=false:=by simpa using hxw
       have hxw1:x1=W:=by
        have h1:=Hw.out;rw[Hx0.out,Hx1.out]at h1;rcases h1 with h1 | h1
        ·exact absurd (zAH h1) hxw
        ·exact zAH h1
       have Hxw1:=kH hxw1;clear hxw1 hxw
       go_wp2_with fail
       go_meet
       refine⟨c,x0,s2,rfl,H2,kH ⟨Hc.out,Hx0.out,by rw[Hx1.out,Hxw1.out],HCL.out,HCS.out⟩,Hq2⟩
     case rest=>
      obtain⟨c',a,s3,rfl,H3,H3b,H3c⟩:=hcut;have hcla3:=H3.out.lp.inv.cla c' (zAC H3b.out.1);have hal:=hcla3.lit H3b.out.2.1;have hwf:=H3.out.lp.inv.trl.wf;have Hal:=kH hal;have Hwf:=kH hwf;have Hcla3:=kH hcla3;have Hof:=kH (aLe H3.out.sat hn hal hwf.tri);have hq3:v2.cl= .slice (some ⟨gc,oc,none⟩) s3.cls.length cc:=by rw[Hq1.out,HCS.out,H3b.out.2.2.2.2]
      have Hq3:=kH hq3;obtain⟨k1,k2,k3,k4⟩:=H3.out.sat.lits H3b.out.1 hq3 (by rw[H3b.out.2.2.2.1];exact H3c.out);have hkl2:kept.length<=900000:=by have:=H3.out.kl;omega
      have Hk1:=kH k1;have Hk2:=kH k2;have Hk3:=kH k3;clear m0 m1 c0 hf0 hf1 r2;have m0:=k1 0 a H3b.out.2.1;rw[zBI]at m0;clear k1 k2 k3 k4 hq3 hal hwf hcla3;have hva3:=Hwf.out.val a;obtain⟨va,hva⟩:∃x,S.val s3.val a=x:=⟨_,rfl⟩;rw[hva]at Hof hva3;have Hva:=kH hva;clear hva
      go_wp2_with fail
      refine Hof.out.mono ?_;rintro e w' ⟨rfl,rfl⟩;clear Hof
      by_cases hv1:va=1
      ·subst hv1;clear hva3;have Hkp:=kH H3.out.kp
       go_wp2_with (at_builtin;go_loud (refine aAk wc rfl (.tmp 83) (.tmp 85) 37 rfl 3 (.int .i64 0) 8 underlying37 Tryz.sinfoInt rfl (.slice Ak kept.length ck) kept.length (snv kept) rfl Hkp.out (.int .i64 (k:Int)) rfl 3 rfl (by omega) (by omega) ?_);intro v' w4 hown' hgr hat;obtain⟨Av,cv,hv⟩:=hown'.form;subst hv;have Hpush:=kH (PM.push H3.out hown' hgr hat);clear hown' hgr hat)
       have e9:Value.slice Av (kept ++ [k]).length cv= .slice Av (kept.length+1) cv:=by rw[zAX];rfl
       have HN:=kH (show PI w B0 Sb n cs0 done s p W old (i+1) (kept ++ [k]) (.slice (some ⟨go,oo,none⟩) old.length co) (.slice Av (kept ++ [k]).length cv) s3 tg2 v2 w4 from by
        rw[e9];exact Hpush.out.1.pi (H3.out.lp.keep Hki.out H3b.out.1 H3b.out.2.1 H3b.out.2.2.1 Hva.out))
       have hgk:=Hgk.out
       go_roundg (gk-1)
       case measure=>omega
       case rel=>exact⟨i+1,kept ++ [k],Av,cv,s3,tg2,v2,by omega,e9.symm,by simp,by omega,HN⟩
      ·have hvd:decide ((0:Int) < va)=false:=by simp;omega
       go_wp2;obtain⟨gI,rfl⟩:∃g,g=gk:=⟨_,rfl⟩;have HgI:=Hgk;clear Hgk
       go_loopg [10] (CL-1) (fun g i10 wx=>∃j:Nat,2<=j/\j<=CL/\i10= .int .i64 (j:Int)/\g+j=CL+1/\wx=wc/\Hid (∀q m,2<=q->q<j->c'[q]? =some m->S.val s3.val m= -1))
       case atStart=>exact⟨2,by omega,by omega,rfl,by omega,rfl,kH fun q m h1 h2 _=>by omega⟩
       case round=>
        obtain⟨j,hj2,hjl,rfl,hgj,hwx,Hf⟩:=hrel;subst hwx;have Hgj:=kH hgj;clear hgj
        by_cases hjc:j<CL
        ·obtain⟨b,hb⟩:∃b,c'[j]? =some b:=⟨_,zAB (by rw[H3b.out.2.2.2.1];exact hjc)⟩;have mj:=Hk1.out j b hb;have hbl:=Hcla3.out.lit hb;have Hofb:=kH (aLe H3.out.sat hn hbl Hwf.out.tri);have hvb3:=Hwf.out.val b;obtain⟨vb,hvb⟩:∃x,S.val s3.val b=x:=⟨_,rfl⟩;rw[hvb]at Hofb hvb3;have Hvb:=kH hvb;have Hb:=kH hb;have Hbl:=kH hbl;clear hvb hb hbl
         go_wp2_with fail
         refine Hofb.out.mono ?_;rintro e w' ⟨rfl,rfl⟩;clear Hofb
         by_cases hv2:vb= -1
         ·subst hv2;go_wp2;have hgj:=Hgj.out
          go_roundg (gk-1)
          case measure=>omega
          case rel=>
           refine⟨j+1,by omega,by omega,by simp,by omega,rfl,kH fun q m h1 h2 h3=>?_⟩
           by_cases e:q=j
           ·subst e;rw[Hb.out]at h3;obtain rfl:=zAH h3;exact Hvb.out
           ·exact Hf.out q m h1 (by omega) h3
         ·have hvd2:decide ((0:Int)<=vb)=true:=by simp;omega
          have m1:=Hk1.out 1 W H3b.out.2.2.1;have hcell:wr.cell? ⟨gc,oc+k,none⟩=some (.slice (some ⟨gu,ou,none⟩) c'.length cu):=by rw[H3b.out.2.2.2.1];exact H3c.out
          obtain⟨w1a,w1b,w1c,w1d,⟨z1,w1e⟩,w1f⟩:=H3.out.sat.swap H3b.out.1 H3b.out.2.2.1 Hb.out Hq3.out hcell;obtain⟨_,_,_,_,⟨z2,w2e⟩,w2f⟩:=H3.out.sat.swap H3b.out.1 Hb.out H3b.out.2.2.1 Hq3.out hcell;have HS1:=kH w1a;have HS2:=kH w1b;have HS3:=kH w1c;have hf0:=Hk2.out (ou+1);have hf1:=Hk2.out (ou+j);clear w1a w1b w1c w1d hcell;go_wp2
          go_region
          have HD:=kH (HS1.out.dr ((Dr.refl _).drew));have HU:=kH (HS2.out.trans (HS1.out.un (((Dr.refl _).drew).below _)));have HB:=kH (HS3.out.dr ((Dr.refl _).drew));obtain⟨X,hX⟩:∃X,X=((wr.setCell ⟨gu,ou+1,none⟩ (.int .i64 b)).setCell ⟨gu,ou+j,none⟩ (.int .i64 W)).drew:=⟨_,rfl⟩;rw[<-hX]at HD HU HB⊢;clear hX HS1 HS2 HS3 w1e w1f w2e w2f;have hl1:(c'.set 1 b).length=CL:=by rw[zBC];exact H3b.out.2.2.2.1
          have hk4:({s3 with cls:=s3.cls.set k ((c'.set 1 b).set j W)}:S.Sol).cls[k]? =some ((c'.set 1 b).set j W):=by
           show(s3.cls.set k _)[k]? =_
           rw[List.getElem?_set,if_pos rfl,if_pos (by rw[H3b.out.2.2.2.2];exact hkl)]
          have h14:((c'.set 1 b).set j W)[1]? =some b:=by
           rw[List.getElem?_set,if_neg (by omega),List.getElem?_set,if_pos rfl,if_pos (by rw[H3b.out.2.2.2.1];omega)]
          have hwl4:(s3.wat.getD (S.pl b) []).length<=1000000:=by
           have h1:=H3.out.lp.small H3b.out.1 H3b.out.2.2.1 hj2 Hb.out;have h2:=H3b.out.2.2.2.2;omega
          have Hw:=kH (aFx HD.out hn hk4 h14 Hbl.out (by omega) (by omega) hwl4 (I:=1) rfl);have HN:=kH (H3.out.lp.move Hki.out H3b.out.1 H3b.out.2.1 H3b.out.2.2.1 hj2 Hb.out (by rw[Hvb.out];exact hv2));clear hl1 hk4 h14 hwl4
          go_wp2_with fail
          refine Hw.out.mono ?_;rintro e w' ⟨rfl,tg',t1,t2,t3⟩;have HM:=kH ((H3.out.pm.un t1 (HU.out.trans t2.1) (HB.out.trans t3) ⟨rfl,rfl,by simp⟩ rfl (Nat.le_succ i)).pi HN.out);clear t1 t2 t3 Hw HN;have hgI:=HgI.out;go_wp2
          go_roundg (gI-1)
          case measure=>omega
          case rel=>exact⟨i+1,kept,Ak,ck,_,tg',v2,by omega,rfl,by simp,by omega,HM⟩
        ·obtain rfl:j=CL:=by omega
         have Hkp:=kH H3.out.kp
         go_wp2_with (at_builtin;go_loud (refine aAk wr rfl (.tmp 115) (.tmp 117) 37 rfl 3 (.int .i64 0) 8 underlying37 Tryz.sinfoInt rfl (.slice Ak kept.length ck) kept.length (snv kept) rfl Hkp.out (.int .i64 (k:Int)) rfl 3 rfl (by omega) (by omega) ?_);intro v' w4 hown' hgr hat;obtain⟨Av,cv,hv⟩:=hown'.form;subst hv;have Hpush:=kH (PM.push H3.out hown' hgr hat);clear hown' hgr hat;have m0':=(aCz (Hpush.out.2 gu _ Hk3.out) ou).trans m0)
         have Hof2:=kH (aLe Hpush.out.1.sat hn Hal.out Hwf.out.tri);rw[Hva.out]at Hof2;refine Hof2.out.mono ?_;rintro e w' ⟨rfl,rfl⟩;clear Hof2
         by_cases hv3:va= -1
         ·subst hv3;have hcl1:=(aOo H3.out.old).1;rw[HOL.out]at hcl1;have Ho:=kH (show OwnAt w4 3 1 (.slice (some ⟨go,oo,none⟩) OL co) OL (snv old)from by
           have:=Hpush.out.1.old;rw[HOL.out]at this;exact this)
          have Hk:=kH (show OwnAt w4 3 1 (.slice Av (kept.length+1) cv) (kept.length+1) (snv (kept ++ [k]))from by
           have:=Hpush.out.1.kp;rw[zAX]at this;exact this)
          have HO1:=kH (show∀u∈snv old,u.oneCell'=true from fun u hu=>by
           obtain⟨x,_,rfl⟩:=zBU.1 hu;rfl)
          have hmm:kept.length+1+OL<=900000000:=by omega
          have hil1:i+1<=OL:=by omega
          go_upto_region 23 with(fail)
          refine aSw (kH Hpush.out.1.sat) (kH Hpush.out.1.bl) Hk (kH Hpush.out.1.kt) Ho hpl (kH rfl) hil1 hmm HO1 hcl1 ?_;intro _ _ _ _ _ _ _ _ _ _ _ _ Av' cv' w5 Hall;go_wp2;rw[Exit.noGoto_ret];go_ret;have hfin:=aZp Hpush.out.1 H3.out.lp Hki.out H3b.out.1 H3b.out.2.1 H3b.out.2.2.1 Hva.out (fun q m h1 h2=>Hf.out q m h1 (by rw[<-H3b.out.2.2.2.1];exact(zAA.1 h2).1) h2) HOL.out rfl Hall;rw[HPl.out]at hfin;exact hfin
         ·obtain rfl:va=0:=by omega
          have htr3:S.Trl n s3.val s3.lvl s3.trl s3.lim:=H3.out.lp.inv.trl;have hts3:s3.trl.length<=4000:=by have:=htr3.size;omega
          have hls3:s3.lim.length<=4000:=by have:=htr3.limsz;omega
          have Htell:=kH (aFg Hpush.out.1.sat hn Hal.out hts3 hls3 (k:Int));clear htr3 hts3 hls3
          go_wp2_with fail
          refine Htell.out.mono ?_;rintro e w' ⟨rfl,tg',v',t1,t2,t3⟩;have HN:=kH ((Hpush.out.1.un t1 t2 t3 ⟨rfl,rfl,rfl⟩ rfl (zBJ _)).pi (H3.out.lp.told Hki.out H3b.out.1 H3b.out.2.1 H3b.out.2.2.1 Hva.out fun q m h1 h2=>Hf.out q m h1 (by rw[<-H3b.out.2.2.2.1];exact(zAA.1 h2).1) h2));clear t1 t2 t3 Htell;have hgI:=HgI.out;have e9:Value.slice Av (kept ++ [k]).length cv= .slice Av (kept.length+1) cv:=by rw[zAX];rfl
          rw[<-e9]at HN;go_wp2
          go_roundg (gI-1)
          case measure=>omega
          case rel=>exact⟨i+1,kept ++ [k],Av,cv,_,tg',v',by omega,e9.symm,by simp,by omega,HN⟩
    ·obtain rfl:i=OL:=by omega
     have hpw:P<s2.wat.length:=by rw[H2.out.sat.nw];exact hpl
     obtain⟨⟨A5,m5,c5,hc5⟩,hf5⟩:=H2.out.sat.watCell hpw;have c2:=H2.out.sat.c2;obtain⟨tg',hst⟩:=H2.out.store (by rw[HOL.out];exact zBJ _);have hnx2:=H2.out.nx;rw[HPl.out]at hst;have HST:=kH hst;have Hnx2:=kH hnx2;clear hst hnx2 hpw
     go_wp2_with fail
     have hgO:=HgO.out;have hp1:=Hp.out;have hnx2:=Hnx2.out;rw[Exit.noGoto_normal];go_wp2
     go_roundg (gO-1)
     case measure=>omega
     case rel=>exact⟨_,tg',v2,by show gO-1+s2.nxt=n+1;omega,HST⟩
  ·have hdk2:decide ((p:Int) <(TL:Int))=false:=by simp;omega
   go_wp2
   go_quiet (fail)
   go_wp2;go_ret;have hnx9:s1.nxt=s1.trl.length:=by rw[Hp.out,HTL.out];omega
   exact⟨tg1,v1,s1,H1.out.sat.dr ((Dr.refl wr).drewN _),H1.out.bl.dr ((Dr.refl wr).drewN _),H1.out.sm, .inl ⟨rfl,hnx9,by have:=H1.out.inv;rw[hnx9]at this;exact this⟩⟩
end
end
end Go.Proofs.YtchdbhggbdcapaaGreat
