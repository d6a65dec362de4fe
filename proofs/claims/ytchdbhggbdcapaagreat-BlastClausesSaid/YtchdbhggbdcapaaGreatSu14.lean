/- Part. -/
import Derived.Test.YtchdbhggbdcapaaGreatSuLX
import Derived.Test.YtchdbhggbdcapaaGreatSu13
set_option linter.unusedVariables false
set_option linter.unusedSimpArgs false
set_option maxRecDepth 100000
set_option maxHeartbeats 16000000
namespace Go.Proofs.YtchdbhggbdcapaaGreat
open _root_.Go.Proofs.Tryz
section
open Go.RowKit Go.MapKept Go.Maps Go.WideMaps
def gaV(q:C.Gate):Value:= .agg #[.int .i64 q.1, .int .i64 q.2.1, .int .i64 q.2.2]
theorem aVr:∀a b,gaV a=gaV b->a=b:=by
 rintro⟨a,b,c⟩ ⟨d,e,f⟩ h;simp[gaV]at h;simpa using h
theorem aVs:Keyed prog 220:=Keyed.of_law (deep_law_laid (by kernel_rfl) (m:=3) (by omega) (of_decide_eq_true (by kernel_rfl)) (by kernel_rfl) (by kernel_rfl))
theorem aKq{P:Program}{t:TypeId}{q:IntKind}(h:P.underlying t=some (.int q))(d:Nat){n:Int}(hn:(Lit.int q n).wf=true):P.keyLits (d+1) t [.int q n]=some [.int q n]:=by
 simp[Program.keyLits,h,hn]
theorem aSi{x:Int}(h:C.Ib x):(Lit.int .i64 x).wf=true:=by
 have e1:IntKind.i64.min= -9223372036854775808:=by decide
 have e2:IntKind.i64.max=9223372036854775807:=by decide
 unfold C.Ib at h;unfold Lit.wf;rw[Bool.and_eq_true,zBQ,zBQ,e1,e2];omega
theorem aSj{q:C.Gate}(h0:C.Ib q.1)(h1:C.Ib q.2.1)(h2:C.Ib q.2.2):∃l,keyOf prog 220 (gaV q)=some l:=by
 have f1:prog.keyType 220=true:=by kernel_rfl
 have f2:prog.cellsOf 220=3:=by kernel_rfl
 have f4:prog.cellsOf 3=1:=by kernel_rfl
 obtain⟨d,hd⟩:∃d,prog.types.size+1=d+4:=⟨prog.types.size-3,by have:3<=prog.types.size:=of_decide_eq_true (by kernel_rfl);omega⟩;have hL:prog.keyLits (prog.types.size+1) 220 (gaV q).cells.toList=some [.int .i64 q.1, .int .i64 q.2.1, .int .i64 q.2.2]:=by
  rw[hd];unfold Program.keyLits;simp only[underlying220,f2];simp only[gaV,Value.cells];refine(if_pos ⟨rfl,by kernel_rfl⟩).trans ?_;simp only[List.mapM_cons,List.mapM_nil,f4,List.drop_zero,List.drop_succ_cons,List.take_succ_cons,List.take_zero];rw[aKq underlying3 (d+2) (aSi h0),aKq underlying3 (d+2) (aSi h1),aKq underlying3 (d+2) (aSi h2)];rfl
 have hf:(gaV q).formed prog 220=true:=by simp[Value.formed,underlying220,f2,gaV]
 unfold keyOf;simp only[underlying220,f1,hf,hL,Bool.and_self,if_true,Option.map_some];exact⟨_,rfl⟩
def GaE{κ:Type}(_:World)(_:κ)(u:Value)(n:Int):Prop:=u= .int .i64 n
theorem aY6(l:List (C.Gate×Int))(q:C.Gate):AL.get l q=C.look l q:=by
 unfold C.look;induction l with
 | nil=>rfl
 | cons p l ih=>
  obtain⟨k,a⟩:=p;unfold AL.get;rw[List.find?_cons]
  by_cases e:k=q
  ·subst e;simp
  ·have hb:((k,a).1 == q)=false:=by simpa using e
   rw[hb];simp only;rw[if_neg (by first | exact e | exact fun h=>e h.symm)];exact ih
theorem bE8{l:List (C.Gate×Int)}(hn:(l.map Prod.fst).Nodup)(q:C.Gate)(o:Int):AL.put l q o=C.put l q o:=by
 unfold C.put
 by_cases h:∀p∈l,p.1≠q
 ·rw[AL.put_none h,C.aKj.2 h];rfl
 ·have hs:(C.look l q).isSome=true:=by
   rw[Option.isSome_iff_ne_none];exact fun e=>h (C.aKj.1 e)
  rw[if_pos hs];obtain⟨p,hp⟩:=Classical.not_forall.1 h;obtain⟨hpm,hpe⟩:=Classical.not_imp.1 hp;have hpe:p.1=q:=Classical.not_not.1 hpe;obtain⟨j,hj⟩:=zAG hpm;have hj':l[j]? =some (q,p.2):=by rw[hj,<-hpe]
  rw[AL.put_some hn hj'];apply List.ext_getElem?;intro i;rw[List.getElem?_set,zAW]
  by_cases e:j=i
  ·subst e;rw[if_pos rfl,if_pos (zAA.1 hj).1,hj];simp[hpe]
  ·rw[if_neg e];cases hi:l[i]? with
   | none=>rfl
   | some x=>
    have hne:x.1≠q:=by
     intro ex;have h1:=List.pairwise_iff_getElem.1 hn;have hil:=(zAA.1 hi);have hjl:=(zAA.1 hj);obtain⟨hi1,hi2⟩:=hil;obtain⟨hj1,hj2⟩:=hjl;have hi3:i<(l.map Prod.fst).length:=by simpa using hi1
     have hj3:j<(l.map Prod.fst).length:=by simpa using hj1
     rcases Nat.lt_or_gt_of_ne e with hlt | hlt
     ·exact h1 j i hj3 hi3 hlt (by simp only[List.getElem_map,hi2,hj2,ex,hpe])
     ·exact h1 i j hi3 hj3 hlt (by simp only[List.getElem_map,hi2,hj2,ex,hpe])
    simp[hne]
structure BAt(w:World)(B0 Bb Mb:Nat)(tg:TgF)(vc:Value)(b:C.Bd):Prop where
 st:CRow w tg .st 76 Bb [.int .i64 (b.n:Int),vc, .map (some Mb), .bool b.full]
 cl:∃us,COwn w tg .cls 37 vc b.cls.length us/\CEls w tg (fun _=> .wl) us (b.cls.map siv)
 mp:MapAt prog 220 gaV GaE w Mb b.known
 mt:tg Mb=some .wat
 lt:∀x t,tg x=some t->B0<=x/\x<w.heap.size
 bo:C.Bo b
structure Up(B0:Nat)(tg:TgF)(w:World)(tg':TgF)(w':World):Prop where
 un:Un tg w tg' w'
 bl:Below B0 w w'
theorem Up.refl(B0:Nat)(tg:TgF)(w:World):Up B0 tg w tg w:=⟨Un.refl tg w,Below.refl _ _⟩
theorem Up.trans{B0:Nat}{tg tg' tg'':TgF}{w w' w'':World}(h:Up B0 tg w tg' w')(k:Up B0 tg' w' tg'' w''):Up B0 tg w tg'' w'':=⟨h.un.trans k.un,h.bl.trans k.bl⟩
section
variable {w w' : World} {B0 Bb Mb : Nat} {tg tg' : TgF} {vc : Value} {b : C.Bd}
theorem BAt.none_(h:BAt w B0 Bb Mb tg vc b){x:Nat}(hx:w.heap.size<=x):tg x=none:=by
 cases e:tg x with
 | none=>rfl
 | some t=>have:=(h.lt x t e).2;omega
theorem BAt.frame(h:BAt w B0 Bb Mb tg vc b)(hs:w.heap.size<=w'.heap.size)(hk:∀x t,tg x=some t->w'.heap[x]? =w.heap[x]?):BAt w' B0 Bb Mb tg vc b:=by
 obtain⟨us,c1,c2⟩:=h.cl;exact⟨h.st.keep (TExt.refl tg) fun x hx=>hk x _ hx,⟨us,c1.keep (TExt.refl tg) fun x hx=>hk x _ hx,c2.keep (TExt.refl tg) fun x k hx=>hk x _ hx⟩,h.mp.keep (hk Mb _ h.mt) (fun _ _ _ h=>h),h.mt,fun x t hx=>⟨(h.lt x t hx).1,zAL (h.lt x t hx).2 hs⟩,h.bo⟩
theorem BAt.below(h:BAt w B0 Bb Mb tg vc b)(hb:Below w.heap.size w w'):BAt w' B0 Bb Mb tg vc b:=h.frame hb.size fun x t hx=>hb.block x (h.lt x t hx).2
theorem BAt.dr(h:BAt w B0 Bb Mb tg vc b)(hd:Dr w w'):BAt w' B0 Bb Mb tg vc b:=h.below (hd.below _)
theorem BAt.up(h:BAt w B0 Bb Mb tg vc b)(hb:Below w.heap.size w w'):Up B0 tg w tg w':=⟨⟨hb.size,fun x hx hn=>⟨hn,hb.block x hx⟩,fun x hx=>⟨hx,hb.block x (h.lt x _ hx).2⟩⟩,hb.mono (by have:=h.lt Bb _ h.st.2;omega)⟩
theorem BAt.c0(h:BAt w B0 Bb Mb tg vc b):w.cell? ⟨Bb,0,none⟩=some (.int .i64 (b.n:Int)):=h.st.cell rfl
theorem BAt.c1(h:BAt w B0 Bb Mb tg vc b):w.cell? ⟨Bb,1,none⟩=some vc:=h.st.cell rfl
theorem BAt.c2(h:BAt w B0 Bb Mb tg vc b):w.cell? ⟨Bb,2,none⟩=some (.map (some Mb)):=h.st.cell rfl
theorem BAt.c3(h:BAt w B0 Bb Mb tg vc b):w.cell? ⟨Bb,3,none⟩=some (.bool b.full):=h.st.cell rfl
theorem BAt.set(h:BAt w B0 Bb Mb tg vc b)(i:Nat)(u:Value){b':C.Bd}(hr: [.int .i64 (b.n:Int),vc, .map (some Mb), .bool b.full].set i u= [.int .i64 (b'.n:Int),vc, .map (some Mb), .bool b'.full])(hc:b'.cls=b.cls)(hm:b'.known=b.known)(hb:C.Bo b'):
 BAt (w.setCell ⟨Bb,i,none⟩ u) B0 Bb Mb tg vc b'/\Up B0 tg w tg (w.setCell ⟨Bb,i,none⟩ u):=by
 have hk:∀x,x≠Bb->(w.setCell ⟨Bb,i,none⟩ u).heap[x]? =w.heap[x]? :=fun x hx=>Below.heap_setCell w ⟨Bb,i,none⟩ u x hx
 have hne:∀x t,tg x=some t->t≠ .st->x≠Bb:=fun x t hx ht e=>by subst e;rw[h.st.2]at hx;exact ht (zAH hx).symm
 obtain⟨us,c1,c2⟩:=h.cl;refine⟨⟨?_,⟨us,?_,?_⟩,?_,h.mt,fun x t hx=>by rw[aAf];exact h.lt x t hx,hb⟩,⟨Un.set h.st.2 (by simp) _ _,(Below.refl _ _).setCell (p:=⟨Bb,i,none⟩) (h.lt _ _ h.st.2).1 _⟩⟩
 ·rw[<-hr];exact h.st.set i u
 ·rw[hc];exact c1.keep (TExt.refl tg) fun x hx=>hk x (hne x _ hx (by simp))
 ·rw[hc];exact c2.keep (TExt.refl tg) fun x k hx=>hk x (hne x _ hx (by simp))
 ·rw[hm];exact h.mp.keep (hk Mb (hne Mb _ h.mt (by simp))) (fun _ _ _ h=>h)
theorem BAt.push(h:BAt w B0 Bb Mb tg vc b){E:TypeId}{c:List Int}{u v':Value}{us:List Value}{w1:World}(hlen:b.cls.length<23999)(hc3:c.length<=3)(hu:OwnAt w 3 1 u c.length (siv c))(hun:∀g,u.ownBlock=some g->B0<=g/\tg g=none)
 (hc1:COwn w tg .cls 37 vc b.cls.length us) (hc2:CEls w tg (fun _=> .wl) us (b.cls.map siv))
 (ho:OwnAt w1 37 1 v' (b.cls.length+1) (us ++ [u])) (hg:(w.alloc (.cells #[u] E)).grownBy w1 vc.ownBlock) (hat:v'.ownBlock=vc.ownBlock\/v'.ownBlock=some (w.heap.size+1)):
 w1.cell? ⟨Bb,1,none⟩=some vc/\w1.frozen? ⟨Bb,1,none⟩=false/\∃tg',BAt (w1.setCell ⟨Bb,1,none⟩ v') B0 Bb Mb tg' v' {b with cls:=b.cls ++ [c]}/\Below B0 w (w1.setCell ⟨Bb,1,none⟩ v')/\
  (∀x,x<w.heap.size->tg x=none->u.ownBlock≠some x->tg' x=none/\(w1.setCell ⟨Bb,1,none⟩ v').heap[x]? =w.heap[x]?)/\(∀x,tg x=some .wl->tg' x=some .wl/\(w1.setCell ⟨Bb,1,none⟩ v').heap[x]? =w.heap[x]?):=by
 have hW:Below w.heap.size w (w.alloc (.cells #[u] E)):=al0;have hsz:(w.alloc (.cells #[u] E)).heap.size=w.heap.size+1:=by simp
 have hk1:=aFu (B0:=B0) (u':=v') hW hc1.2 h.lt hg;have hsw:w.heap.size<=w1.heap.size:=by have:=hg.size;omega
 have hnew:v'.ownBlock=vc.ownBlock\/∃g,v'.ownBlock=some g/\tg g=none:=hat.imp_right fun e=>⟨_,e,h.none_ (by omega)⟩
 obtain⟨tg1,x1,x2,x3⟩:=aGj (t:=Tg.cls) hc1.2 hnew;have hu1:∀g,u.ownBlock=some g->tg1 g=none:=fun g hg=>by
  apply zAI;intro hne;have e:tg1 g≠tg g:=by rw[(hun g hg).2];exact hne
  obtain⟨e1,_,_⟩:=x3 g e;rcases hat with q | q
  ·rw[q]at e1;have:=hc1.2 g e1;rw[(hun g hg).2]at this;cases this
  ·rw[q]at e1;obtain rfl:=zAH e1;have:=hu.lt _ hg;omega
 obtain⟨tg',y1,y2,y3⟩:=aGj (tg:=tg1) (t:=Tg.wl) (u:= .slice none 0 0) (u':=u) (fun g hg=>by cases hg) (by
  cases e:u.ownBlock with
  | none=>exact .inl rfl
  | some g=>exact .inr ⟨g,rfl,hu1 g e⟩)
 have hx:TExt tg tg':=fun b t hb=>y1 b t (x1 b t hb)
 have hst1:CRow w1 tg .st 76 Bb [.int .i64 (b.n:Int),vc, .map (some Mb), .bool b.full]:=h.st.keep (TExt.refl tg) fun b hb=>hk1 b _ hb (by simp)
 have hSb:tg' Bb=some .st:=hx _ _ h.st.2;have hk2:∀b t,tg b=some t->¬(t= .cls\/t= .st)->(w1.setCell ⟨Bb,1,none⟩ v').heap[b]? =w.heap[b]? :=fun b t hb hne=>
  (Below.heap_setCell w1 ⟨Bb,1,none⟩ v' b fun e=>hne (.inr (by subst e;rw[h.st.2]at hb;exact(zAH hb).symm))).trans (hk1 b t hb fun e=>hne (.inl e))
 have hvlt:∀g,v'.ownBlock=some g->g<w1.heap.size:=ho.lt;have hvS:v'.ownBlock≠some Bb:=fun e=>by have:=y1 _ _ (x2 _ e);rw[hSb]at this;cases this
 have hno:∀b,b<w.heap.size->tg b=none->(w1.setCell ⟨Bb,1,none⟩ v').heap[b]? =w.heap[b]? :=fun g hlt hn=>
  (Below.heap_setCell w1 ⟨Bb,1,none⟩ v' g fun e=>by subst e;rw[h.st.2]at hn;cases hn).trans ((hg.block g (by omega) fun e=>by have:=hc1.2 g e.symm;rw[hn]at this;cases this).trans (hW.block g hlt))
 have husame:∀g,u.ownBlock=some g->(w1.setCell ⟨Bb,1,none⟩ v').heap[g]? =w.heap[g]? :=fun g hgu=>hno g (hu.lt g hgu) (hun g hgu).2
 refine⟨hst1.cell rfl,hst1.frz 1,tg',⟨?_,⟨us ++ [u],⟨?_,fun g hg=>y1 _ _ (x2 g hg)⟩,?_⟩,h.mp.keep (hk2 Mb _ h.mt (by simp)) (fun _ _ _ h=>h),hx _ _ h.mt,fun x t hb=>?_,⟨h.bo.n,by simp;omega,h.bo.k,h.bo.nd,fun c' hc'=>(zBE.1 hc').elim (h.bo.s c') fun hc'=>by rw[zBD.1 hc'];exact hc3⟩⟩,?_,fun x hlt hn hne=>⟨?_,hno x hlt hn⟩,fun x hw=>⟨hx _ _ hw,hk2 x _ hw (by simp)⟩⟩
 ·exact⟨by have:=(hst1.set 1 v').1;exact this,hSb⟩
 ·show OwnAt _ _ 1 v' (b.cls ++ [c]).length (us ++ [u])
  rw[zAX];exact ho.setCell (p:=⟨Bb,1,none⟩) hvS v'
 ·refine⟨by simp[hc2.1],fun q d hd=>?_⟩;have hd':((b.cls ++ [c]).map siv)[q]? =some d:=hd;rw[zBS]at hd';rcases Nat.lt_or_ge q (b.cls.map siv).length with hq | hq
  ·rw[zAE hq]at hd';obtain⟨u',hu',ho'⟩:=hc2.2 q d hd';refine⟨u',by rw[zAE (by have:=hc2.1;omega)];exact hu',ho'.keep hx fun b hb=>hk2 b _ hb (by simp)⟩
  ·rw[zAF hq]at hd';have hq2:=(zAA.1 hd').1;simp at hq2 hq;have e:q=b.cls.length:=by omega
   subst e;simp at hd';subst hd';have hul:us.length=b.cls.length:=by have:=hc2.1;simpa using this
   refine⟨u,by rw[zAF (by omega),hul];simp,?_,fun g hg=>y2 g hg⟩;rw[aBu];exact hu.same husame
 ·rw[aAf]
  by_cases e:tg' x=tg1 x
  ·rw[e]at hb
   by_cases e':tg1 x=tg x
   ·rw[e']at hb;have:=h.lt x t hb;omega
   ·obtain⟨e1,e2,e3⟩:=x3 x e';refine⟨?_,hvlt x e1⟩;rcases hat with q | q
    ·rw[q]at e1;have:=hc1.2 x e1;rw[e2]at this;cases this
    ·rw[q]at e1;obtain rfl:=zAH e1;have:=h.lt Bb _ h.st.2;omega
  ·obtain⟨e1,e2,e3⟩:=y3 x e;exact⟨(hun x e1).1,zAL (hu.lt x e1) hsw⟩
 ·have hb0:=h.lt Bb _ h.st.2;have h1:Below B0 w w1:=(hW.mono (by omega)).grown hg (by omega) (fun g hg=>(h.lt g _ (hc1.2 g hg)).1);exact h1.setCell (p:=⟨Bb,1,none⟩) hb0.1 v'
 ·have e1:tg1 x=tg x:=by
   apply zAI;intro e;obtain⟨e1,_,_⟩:=x3 x e;rcases hat with q | q
   ·rw[q]at e1;have:=hc1.2 x e1;rw[hn]at this;cases this
   ·rw[q]at e1;obtain rfl:=zAH e1;omega
  have e2:tg' x=tg1 x:=by
   apply zAI;intro e;exact hne (y3 x e).1
  rw[e2,e1,hn]
def GPost(w:World)(B0 Bb Mb:Nat)(tg:TgF)(r:Int×C.Bd)(e:Ending)(w':World):Prop:=
 e= .returned (.int .i64 r.1)/\∃tg' vc',BAt w' B0 Bb Mb tg' vc' r.2/\Up B0 tg w tg' w'
theorem aGv(h:BAt w B0 Bb Mb tg vc b)(f:C.E->Bool):Calls prog 68 #[.pointer (some ⟨Bb,0,none⟩)] w (GPost w B0 Bb Mb tg (C.fresh f b)):=by
 have c0:=h.c0;have c3:=h.c3;have f0:=h.st.frz 0;have f3:=h.st.frz 3;have hn:=h.bo.n;obtain⟨n,hbn⟩:∃n,b.n=n:=⟨_,rfl⟩;rw[hbn]at c0 hn
 by_cases hge:4000<=n
 ·have hd:decide ((4000:Int)<=(n:Int))=true:=by simp;omega
  have he:C.fresh f b=(1,{b with full:=true}):=by unfold C.fresh;rw[if_pos (by omega)]
  have HS:=kH (h.set 3 (.bool true) (b':={b with full:=true}) rfl rfl rfl ⟨h.bo.n,h.bo.c,h.bo.k,h.bo.nd,h.bo.s⟩);rw[he];clear h he hbn
  go_enter func68,ntmps68
  go_wp2;go_ret;exact⟨rfl,tg,vc,HS.out.1,HS.out.2⟩
 ·have hd:decide ((4000:Int)<=(n:Int))=false:=by simp;omega
  have he:C.fresh f b=((n:Int)+1,{b with n:=n+1,g:=b.g ++ [f]}):=by unfold C.fresh;rw[if_neg (by omega),hbn]
  have HS:=kH (h.set 0 (.int .i64 ((n:Int)+1)) (b':={b with n:=n+1,g:=b.g ++ [f]}) rfl rfl rfl ⟨by show n+1<=4000;omega,h.bo.c,h.bo.k,h.bo.nd,h.bo.s⟩);rw[he];clear h he hbn
  go_enter func68,ntmps68
  go_wp2;go_ret;exact⟨rfl,tg,vc,HS.out.1,HS.out.2⟩
end
def aY7(w:World)(B:Nat)(v:Value)(ls:List (List Int)):Prop:=
 ∃us,OwnAt w 37 1 v ls.length us/\us.length=ls.length/\(∀g,v.ownBlock=some g->B<=g)/\
  ∀j u l,us[j]? =some u->ls[j]? =some l->OwnAt w 3 1 u l.length (siv l)/\∀g,u.ownBlock=some g->B<=g/\v.ownBlock≠some g/\∀(k:Nat) (u':Value),us[k]? =some u'->k≠j->u'.ownBlock≠some g
def bDy(X:World)(ls:List (List Int))(e:Ending)(w':World):Prop:=
 ∃g,e= .returned (.slice (some ⟨g,0,none⟩) ls.length ls.length)/\Below X.heap.size X w'/\aY7 w' X.heap.size (.slice (some ⟨g,0,none⟩) ls.length ls.length) ls
def Tells(W:World)(tg:TgF)(f:FuncId)(caps:Array Value)(cl:Int->List (List Int)):Prop:=
 (∀args W',(callFunc f args).run prog W'= .ok (.enter f args) W')/\
  ∀X:World,(∀x,x<W.heap.size->tg x=none->X.heap[x]? =W.heap[x]?)->∀out:Int,1<=out->out<=4000->Calls prog f (#[.int .i64 out]++ caps) X (bDy X (cl out))
theorem aOr{w:World}{e:TypeId}{b:Nat}{cs:List Value}{cur:Array Value}(h:w.heap[b]? =some (.cells cur e (0,0)))(hc:cur.toList=cs)(hm:cs.length<=1000):OwnAt w e 1 (.slice (some ⟨b,0,none⟩) cs.length cs.length) cs.length cs:=by
 subst hc;exact⟨by simp, .inr ⟨b,0,cur.toList.length,cur,rfl,h,zBJ _,by unfold maxLen;omega,by simp,fun j u hu=>by simpa using hu⟩⟩
theorem aC0{w:World}{p:Addr}{v:Value}(h:w.cell? p=some v):p.block<w.heap.size:=by
 apply zAI;intro hn;have e:w.heap[p.block]? =none:=Array.getElem?_eq_none (by omega);unfold World.cell? at h;rw[e]at h;cases h
theorem aBn{w w':World}{b i:Nat}(h:w'.heap[b]? =w.heap[b]?):w'.cell? ⟨b,i,none⟩=w.cell? ⟨b,i,none⟩:=by simp only[World.cell?,h]
theorem aDf{w:World}{o:Obj}{b:Nat}(h:b=w.heap.size):(w.alloc o).heap[b]? =some o:=by subst h;exact heap_alloc_new w o
theorem aCi{w:World}{o o':Obj}{b:Nat}(h:w.heap[b]? =some o'):(w.alloc o).heap[b]? =some o':=(Below.heap_alloc w o b (gA h).1).trans h
theorem aNx{w:World}{B:Nat}{ls:List (List Int)}{us:List Value}{cur:Array Value}(hl:us.length=ls.length)(hc:cur.toList=us)(h2:w.heap[B+ls.length]? =some (.cells cur 37 (0,0)))(hm:ls.length<=1000)
 (h1:∀j l,ls[j]? =some l->l.length<=1000/\∃c:Array Value,c.toList=siv l/\w.heap[B+j]? =some (.cells c 3 (0,0)))
 (hu:∀(j:Nat) (u:Value) (l:List Int),us[j]? =some u->ls[j]? =some l->u= .slice (some ⟨B+j,0,none⟩) l.length l.length):
 aY7 w B (.slice (some ⟨B+ls.length,0,none⟩) ls.length ls.length) ls:=by
 refine⟨us,by rw[<-hl];rw[<-hl]at h2;exact aOr h2 hc (by omega),hl,fun g hg=>by
  have e:B+ls.length=g:=by simpa[Value.ownBlock]using hg
  omega,fun j u l hj hjl=>?_⟩
 have hjlt:=(zAA.1 hjl).1;obtain rfl:=hu j u l hj hjl;obtain⟨k1,c,k2,k3⟩:=h1 j l hjl;refine⟨?_,fun g hg=>?_⟩
 ·have:=aOr k3 k2 (by rw[aBu];exact k1);rw[aBu]at this;exact this
 ·have e:B+j=g:=by simpa[Value.ownBlock]using hg
  subst e;refine⟨by omega,fun e=>?_,fun k u' hk hne e=>?_⟩
  ·have e:B+ls.length=B+j:=by simpa[Value.ownBlock]using e
   omega
  ·have hkl:k<ls.length:=by rw[<-hl];exact(zAA.1 hk).1
   obtain⟨l',hl'⟩:∃l',ls[k]? =some l':=⟨_,zAB hkl⟩;obtain rfl:=hu k u' l' hk hl';have e:B+k=B+j:=by simpa[Value.ownBlock]using e
   omega
theorem aW1{W:World}{tg:TgF}{x y:Int}{bx bY:Nat}(hx:C.Ib x)(hy:C.Ib y)(cx:W.cell? ⟨bx,0,none⟩=some (.int .i64 x))(cy:W.cell? ⟨bY,0,none⟩=some (.int .i64 y))(tx:tg bx=none)(ty:tg bY=none):
 Tells W tg 196 #[.pointer (some ⟨bx,0,none⟩), .pointer (some ⟨bY,0,none⟩)] (C.andCl x y):=by
 refine⟨enters_of func196 (by kernel_rfl) rfl,fun X hb out h1 h2=>?_⟩;have dx:=(aBn (hb bx (aC0 cx) tx)).trans cx;have dy:=(aBn (hb bY (aC0 cy) ty)).trans cy;have lx:bx<X.heap.size:=aC0 dx;have ly:bY<X.heap.size:=aC0 dy;have dy1:∀o,(X.alloc o).cell? ⟨bY,0,none⟩=some (.int .i64 y):=fun o=>(((Below.refl _ _).alloc (zBJ _) o).cell (p:=⟨bY,0,none⟩) ly).trans dy
 have dx1:∀o,(X.alloc o).cell? ⟨bx,0,none⟩=some (.int .i64 x):=fun o=>(((Below.refl _ _).alloc (zBJ _) o).cell (p:=⟨bx,0,none⟩) lx).trans dx
 have dy2:∀o o',((X.alloc o).alloc o').cell? ⟨bY,0,none⟩=some (.int .i64 y):=fun o o'=>(((Below.refl _ _).alloc (zBJ _) o').cell (p:=⟨bY,0,none⟩) (by simp;exact Nat.lt_succ_of_lt ly)).trans (dy1 o)
 have dx2:∀o o',((X.alloc o).alloc o').cell? ⟨bx,0,none⟩=some (.int .i64 x):=fun o o'=>(((Below.refl _ _).alloc (zBJ _) o').cell (p:=⟨bx,0,none⟩) (by simp;exact Nat.lt_succ_of_lt lx)).trans (dx1 o)
 unfold C.Ib at hx hy;clear cx cy hb tx ty;simp only[List.append_toArray,List.nil_append,List.cons_append]
 go_enter func196,ntmps196
 go_wp2;go_ret;refine⟨_,rfl,(((al0).alloc (by simp) _).alloc (by simp;omega) _).alloc (by simp;omega) _,?_⟩;refine aNx (ls:=C.andCl x y out) (B:=X.heap.size) rfl rfl (aDf (by simp[C.andCl])) (by simp[C.andCl]) ?_ ?_
 ·intro j l hj;rcases j with _ | _ | _ | j
  ·obtain rfl: [-out,x]=l:=by simpa[C.andCl]using hj
   exact⟨by simp,_,rfl,aCi (aCi (aCi (aDf (by simp))))⟩
  ·obtain rfl: [-out,y]=l:=by simpa[C.andCl]using hj
   exact⟨by simp,_,rfl,aCi (aCi (aDf (by simp)))⟩
  ·obtain rfl: [out,-x,-y]=l:=by simpa[C.andCl]using hj
   exact⟨by simp,_,rfl,aCi (aDf (by simp))⟩
  ·simp[C.andCl]at hj
 ·intro j u l hu hl;rcases j with _ | _ | _ | j <;> simp[C.andCl]at hu hl <;> subst hu hl <;> rfl
theorem aW2{W:World}{tg:TgF}{x y:Int}{bx bY:Nat}(hx:C.Ib x)(hy:C.Ib y)(cx:W.cell? ⟨bx,0,none⟩=some (.int .i64 x))(cy:W.cell? ⟨bY,0,none⟩=some (.int .i64 y))(tx:tg bx=none)(ty:tg bY=none):
 Tells W tg 194 #[.pointer (some ⟨bx,0,none⟩), .pointer (some ⟨bY,0,none⟩)] (C.xorCl x y):=by
 refine⟨enters_of func194 (by kernel_rfl) rfl,fun X hb out h1 h2=>?_⟩;have dx:=(aBn (hb bx (aC0 cx) tx)).trans cx;have dy:=(aBn (hb bY (aC0 cy) ty)).trans cy;have lx:bx<X.heap.size:=aC0 dx;have ly:bY<X.heap.size:=aC0 dy;have dy1:∀o,(X.alloc o).cell? ⟨bY,0,none⟩=some (.int .i64 y):=fun o=>(((Below.refl _ _).alloc (zBJ _) o).cell (p:=⟨bY,0,none⟩) ly).trans dy
 have dx1:∀o,(X.alloc o).cell? ⟨bx,0,none⟩=some (.int .i64 x):=fun o=>(((Below.refl _ _).alloc (zBJ _) o).cell (p:=⟨bx,0,none⟩) lx).trans dx
 have dy2:∀o o',((X.alloc o).alloc o').cell? ⟨bY,0,none⟩=some (.int .i64 y):=fun o o'=>(((Below.refl _ _).alloc (zBJ _) o').cell (p:=⟨bY,0,none⟩) (by simp;exact Nat.lt_succ_of_lt ly)).trans (dy1 o)
 have dx2:∀o o',((X.alloc o).alloc o').cell? ⟨bx,0,none⟩=some (.int .i64 x):=fun o o'=>(((Below.refl _ _).alloc (zBJ _) o').cell (p:=⟨bx,0,none⟩) (by simp;exact Nat.lt_succ_of_lt lx)).trans (dx1 o)
 have dy3:∀o o' o3,(((X.alloc o).alloc o').alloc o3).cell? ⟨bY,0,none⟩=some (.int .i64 y):=fun o o' o3=>(((Below.refl _ _).alloc (zBJ _) o3).cell (p:=⟨bY,0,none⟩) (by simp;omega)).trans (dy2 o o')
 have dx3:∀o o' o3,(((X.alloc o).alloc o').alloc o3).cell? ⟨bx,0,none⟩=some (.int .i64 x):=fun o o' o3=>(((Below.refl _ _).alloc (zBJ _) o3).cell (p:=⟨bx,0,none⟩) (by simp;omega)).trans (dx2 o o')
 unfold C.Ib at hx hy;clear cx cy hb tx ty;simp only[List.append_toArray,List.nil_append,List.cons_append]
 go_enter func194,ntmps194
 go_wp2;go_ret;refine⟨_,rfl,((((al0).alloc (by simp) _).alloc (by simp;omega) _).alloc (by simp;omega) _).alloc (by simp;omega) _,?_⟩;refine aNx (ls:=C.xorCl x y out) (B:=X.heap.size) rfl rfl (aDf (by simp[C.xorCl])) (by simp[C.xorCl]) ?_ ?_
 ·intro j l hj;rcases j with _ | _ | _ | _ | j
  ·obtain rfl: [-out,x,y]=l:=by simpa[C.xorCl]using hj
   exact⟨by simp,_,rfl,aCi (aCi (aCi (aCi (aDf (by simp)))))⟩
  ·obtain rfl: [-out,-x,-y]=l:=by simpa[C.xorCl]using hj
   exact⟨by simp,_,rfl,aCi (aCi (aCi (aDf (by simp))))⟩
  ·obtain rfl: [out,-x,y]=l:=by simpa[C.xorCl]using hj
   exact⟨by simp,_,rfl,aCi (aCi (aDf (by simp)))⟩
  ·obtain rfl: [out,x,-y]=l:=by simpa[C.xorCl]using hj
   exact⟨by simp,_,rfl,aCi (aDf (by simp))⟩
  ·simp[C.xorCl]at hj
 ·intro j u l hu hl;rcases j with _ | _ | _ | _ | j <;> simp[C.xorCl]at hu hl <;> subst hu hl <;> rfl
theorem aI1{P:Program}{w:World}{ops:Array Oper}{o:Oper}{a:Act}{K:Act->World->Prop}{Q:Exit->Act->World->Prop}{E:Prop}(hgd:o.guard=none)(f:FuncId)(hf:∀args W,Sem.run P (callFunc f args) W= .ok (.enter f args) W)(x y z v:Operand)(t1 t2 t3 t4:TypeId)
 (ho:o.op= .call {callee:= .value (.func f),args:= #[x,y,z,v],argTypes:= #[t1,t2,t3,t4]}) (ux uy uz uv:Value) (hx:a.eval x=ux) (hy:a.eval y=uy) (hz:a.eval z=uz) (hv:a.eval v=uv) {R:Ending->World->Prop}
 (hc:Calls P f #[ux,uy,uz,uv] w R) (h:∀e w',R e w'->∃r,e= .returned r/\K (a.put o.dst r) w'):
 if Region.wanted o (yielded ops a.tmps)=true then Oper.wp P o a w K Q else E:=by
 rw[if_pos (by simp[Region.wanted,hgd])];have hr:(execOp a.eval o).run P w= .ok (.enter f #[ux,uy,uz,uv]) w:=by
  unfold execOp;rw[ho];have hev:a.eval (.func f)= .func (.func f) #[] #[]:=rfl;generalize a.eval=ev at hx hy hz hv hev;subst hx hy hz hv;simp[go_sem,hf,hev]
 unfold Oper.wp;rw[hr,Oper.upon_enter];refine hc.mono fun e w' he=>?_
 obtain⟨v,rfl,hk⟩:=h e w' he;exact hk
theorem aCs{P:Program}{w:World}{ops:Array Oper}{o:Oper}{a:Act}{K:Act->World->Prop}{Q:Exit->Act->World->Prop}{E:Prop}(hgd:o.guard=none)(f:FuncId)(hf:∀args W,Sem.run P (callFunc f args) W= .ok (.enter f args) W)(x y z:Operand)(t1 t2 t3:TypeId)
 (ho:o.op= .call {callee:= .value (.func f),args:= #[x,y,z],argTypes:= #[t1,t2,t3]}) (ux uy uz:Value) (hx:a.eval x=ux) (hy:a.eval y=uy) (hz:a.eval z=uz) {R:Ending->World->Prop}
 (hc:Calls P f #[ux,uy,uz] w R) (h:∀e w',R e w'->∃r,e= .returned r/\K (a.put o.dst r) w'):
 if Region.wanted o (yielded ops a.tmps)=true then Oper.wp P o a w K Q else E:=by
 rw[if_pos (by simp[Region.wanted,hgd])];have hr:(execOp a.eval o).run P w= .ok (.enter f #[ux,uy,uz]) w:=by
  unfold execOp;rw[ho];have hev:a.eval (.func f)= .func (.func f) #[] #[]:=rfl;generalize a.eval=ev at hx hy hz hev;subst hx hy hz;simp[go_sem,hf,hev]
 unfold Oper.wp;rw[hr,Oper.upon_enter];refine hc.mono fun e w' he=>?_
 obtain⟨v,rfl,hk⟩:=h e w' he;exact hk
def WdAt(w:World)(tg:TgF)(A:Option Addr)(c:Nat)(l:List Int):Prop:=
 OwnAt w 3 1 (.slice A l.length c) l.length (siv l)/\∀g,(Value.slice A l.length c).ownBlock=some g->tg g=none
theorem WdAt.up{w w':World}{B0:Nat}{tg tg':TgF}{A:Option Addr}{c:Nat}{l:List Int}(h:WdAt w tg A c l)(u:Up B0 tg w tg' w'):WdAt w' tg' A c l:=
 ⟨h.1.same fun g hg=>(u.un.no g (h.1.lt g hg) (h.2 g hg)).2,fun g hg=>(u.un.no g (h.1.lt g hg) (h.2 g hg)).1⟩
theorem WdAt.cell{w:World}{tg:TgF}{A:Option Addr}{c:Nat}{l:List Int}(h:WdAt w tg A c l){i:Nat}(hi:i<l.length):∃g o,A=some ⟨g,o,none⟩/\w.cell? ⟨g,o+i,none⟩=some (.int .i64 (l.getD i 0)):=by
 obtain⟨g,o,c',e1,e2,_⟩:=aAg h.1 (aBx hi);injection e1 with e3 _ _
 exact⟨g,o,e3,e2⟩
def WdNew(W w:World)(tg:TgF)(v:Value)(l:List Int):Prop:=
 OwnAt w 3 1 v l.length (siv l)/\∀g,v.ownBlock=some g->W.heap.size<=g/\tg g=none
theorem WdNew.up{W w w':World}{B0:Nat}{tg tg':TgF}{v:Value}{l:List Int}(h:WdNew W w tg v l)(u:Up B0 tg w tg' w'):WdNew W w' tg' v l:=
 ⟨h.1.same fun g hg=>(u.un.no g (h.1.lt g hg) (h.2 g hg).2).2,fun g hg=>⟨(h.2 g hg).1,(u.un.no g (h.1.lt g hg) (h.2 g hg).2).1⟩⟩
structure WSt(W:World)(B0 Bb Mb:Nat)(tg:TgF)(r:List Int×C.Bd)(v:Value)(w':World)(tg':TgF):Prop where
 bu:∃vc',BAt w' B0 Bb Mb tg' vc' r.2
 up:Up B0 tg W tg' w'
 nw:WdNew W w' tg' v r.1
theorem WSt.app{W:World}{B0 Bb Mb:Nat}{tg:TgF}{r:List Int×C.Bd}{v:Value}{w1:World}{tg1:TgF}(h:WSt W B0 Bb Mb tg r v w1 tg1)(hB:B0<=W.heap.size){l:Int}{v':Value}{w2:World}{o:Obj}
 (hown:OwnAt w2 3 1 v' (r.1.length+1) (siv r.1 ++ [.int .i64 l])) (hgr:(w1.alloc o).grownBy w2 v.ownBlock) (hat:v'.ownBlock=v.ownBlock\/v'.ownBlock=some (w1.alloc o).heap.size):WSt W B0 Bb Mb tg (r.1 ++ [l],r.2) v' w2 tg1:=by
 obtain⟨vc',hb⟩:=h.bu;have hk:∀x,x<w1.heap.size->v.ownBlock≠some x->w2.heap[x]? =w1.heap[x]? :=fun x hx hn=>
  (hgr.block x (by simp;omega) fun e=>hn e.symm).trans (Below.heap_alloc w1 o x hx)
 have hne:∀x t,tg1 x=some t->v.ownBlock≠some x:=fun x t hx e=>by rw[(h.nw.2 x e).2]at hx;cases hx
 have hs:w1.heap.size<=w2.heap.size:=by have:=hgr.size;simp at this;omega
 have hbel:Below W.heap.size W w2->True:=fun _=>trivial
 refine⟨⟨vc',hb.frame hs fun x t hx=>hk x (hb.lt x t hx).2 (hne x t hx)⟩,⟨⟨zBK h.up.un.size hs,fun x hx hn=>?_,fun x hx=>?_⟩,?_⟩,?_,fun g hg=>?_⟩
 ·obtain⟨k1,k2⟩:=h.up.un.no x hx hn;exact⟨k1,(hk x (zAL hx h.up.un.size) fun e=>by have:=(h.nw.2 x e).1;omega).trans k2⟩
 ·obtain⟨k1,k2⟩:=h.up.un.wl x hx;exact⟨k1,(hk x (hb.lt x _ k1).2 (hne x _ k1)).trans k2⟩
 ·exact(h.up.bl.alloc (zBK hB h.up.un.size) o).grown hgr (by have:=h.up.un.size;simp;omega) (fun g hg=>by have:=(h.nw.2 g hg).1;omega)
 ·show OwnAt w2 _ 1 v' (r.1 ++ [l]).length (siv (r.1 ++ [l]))
  rw[zAX,aEl];exact hown
 ·rcases hat with e | e
  ·rw[e]at hg;exact h.nw.2 g hg
  ·rw[e]at hg;obtain rfl:=zAH hg;have:=h.up.un.size;exact⟨by simp;omega,hb.none_ (by simp)⟩
def CPost(w:World)(B0 Bb Mb:Nat)(tg:TgF)(u:Value)(r:C.Bd)(w':World):Prop:=
 ∃tg' vc',BAt w' B0 Bb Mb tg' vc' r/\Below B0 w w'/\
  (∀x,x<w.heap.size->tg x=none->u.ownBlock≠some x->tg' x=none/\w'.heap[x]? =w.heap[x]?)/\(∀x,tg x=some .wl->tg' x=some .wl/\w'.heap[x]? =w.heap[x]?)
section
variable {w w' : World} {B0 Bb Mb : Nat} {tg tg' : TgF} {vc : Value} {b : C.Bd}
theorem aGb(h:BAt w B0 Bb Mb tg vc b){A:Option Addr}{cap:Nat}{c:List Int}(hu:OwnAt w 3 1 (.slice A c.length cap) c.length (siv c))(hun:∀g,(Value.slice A c.length cap).ownBlock=some g->B0<=g/\tg g=none)(hc3:c.length<=3):
 Calls prog 71 #[.pointer (some ⟨Bb,0,none⟩), .slice A c.length cap] w (fun e w'=>e= .returned (.tuple #[])/\CPost w B0 Bb Mb tg (.slice A c.length cap) (C.clause c b) w'):=by
 have c1:=h.c1;obtain⟨us,k1,k2⟩:=h.cl;obtain⟨Ac,cc,hcl⟩:=k1.1.form;obtain⟨M,hM⟩:∃M,b.cls.length=M:=⟨_,rfl⟩;have hMb:M<=23999:=by rw[<-hM];exact h.bo.c
 rw[hcl,hM]at c1
 by_cases hge:23999<=M
 ·have hd:decide ((23999:Int)<=(M:Int))=true:=by simp;omega
  have he:C.clause c b={b with full:=true}:=by unfold C.clause;rw[if_pos (by omega)]
  have f3:=h.st.frz 3;have c3:=h.c3;have HS:=kH (h.set 3 (.bool true) (b':={b with full:=true}) rfl rfl rfl ⟨h.bo.n,h.bo.c,h.bo.k,h.bo.nd,h.bo.s⟩);rw[he];clear h he hM hu hun k1 k2 hcl
  go_enter func71,ntmps71
  go_wp2;refine bodyPost_ret (results_none rfl _ _ _) rfl ?_;have hU:=HS.out.2.un;exact⟨rfl,tg,vc,HS.out.1,HS.out.2.bl,fun x hx hn _=>hU.no x hx hn,fun x hx=>hU.wl x hx⟩
 ·have hd:decide ((23999:Int)<=(M:Int))=false:=by simp;omega
  have he:C.clause c b={b with cls:=b.cls ++ [c]}:=by unfold C.clause;rw[if_neg (by omega)]
  have hown:OwnAt w 37 1 (.slice Ac M cc) M us:=by have k0:=k1.1;rw[hcl,hM]at k0;exact k0
  have Hown:=kH hown;have Hk:=kH (And.intro k1 k2);have H:=kH h;have Hu:=kH (And.intro hu hun);have Hcl:=kH hcl;have HM:=kH hM;obtain⟨R,hR⟩:∃R,c.length=R:=⟨_,rfl⟩;have HR:=kH hR;have c1':(w.alloc (.cells #[.slice A R cap] 37)).cell? ⟨Bb,1,none⟩=some (.slice Ac M cc):=((al0).cell (p:=⟨Bb,1,none⟩) (h.lt _ _ h.st.2).2).trans c1;rw[he,hR];rw[hR]at hc3;clear h he hM hu hun k1 k2 hcl hown hR
  go_enter func71,ntmps71
  go_upto_region 2 with(fail)
  go_wp2_with (first | fail |(at_builtin;refine aAk _ rfl (.tmp 17) (.tmp 19) 25 rfl 37 (.slice none 0 0) 24 underlying25 Tryz.sinfoInts rfl _ M us rfl Hown.out (.slice A R cap) rfl 37 rfl (by omega) (by omega) ?_;intro v4 w4 hown' hgr hat;obtain⟨Av,cv,hv⟩:=hown'.form;subst hv;obtain⟨q1,q2,tg4,q3,q4⟩:=H.out.push (c:=c) (u:= .slice A R cap) (v':= .slice Av (M+1) cv) (w1:=w4) (E:=37) (by have:=HM.out;omega) (by rw[HR.out];exact hc3) (by have:=Hu.out.1;rw[HR.out]at this;rw[HR.out];exact this) (by have:=Hu.out.2;rw[HR.out]at this;exact this) Hk.out.1 Hk.out.2 (by rw[HM.out];exact hown') (by rw[show vc=_ from Hcl.out,HM.out];exact hgr) (by rw[show vc=_ from Hcl.out,HM.out];exact hat);have Hq:=kH (And.intro q3 q4);clear q3 q4 hown' hgr hat))
  refine bodyPost_end (results_none rfl _ _ _) rfl ?_;exact⟨rfl,tg4,_,Hq.out.1,Hq.out.2.1,Hq.out.2.2⟩
end
section
variable {w w' : World} {B0 Bb Mb : Nat} {tg tg' : TgF} {vc : Value} {b : C.Bd}
theorem bBs{l:List (C.Gate×Int)}{q:C.Gate}(h:MapAt prog 220 gaV GaE w Mb l)(h0:C.Ib q.1)(h1:C.Ib q.2.1)(h2:C.Ib q.2.2){w':World}(hw:w'.heap[Mb]? =w.heap[Mb]?):
 (Instr.lookup 74 (.map (some Mb)) (gaV q) true).run prog w'= .ok (.tuple #[.int .i64 ((C.look l q).getD 0), .bool (C.look l q).isSome]) w':=by
 obtain⟨kl,hkl⟩:=aSj h0 h1 h2;have hz:∀w,(zeroValue 3).run prog w= .ok (.int .i64 0) w:=fun _=>by kernel_rfl
 obtain⟨u,_,g2,g3⟩:=(h.keep (R':=GaE) hw (fun _ _ _ h=>h)).lookup aVs aVr underlying74 (hz w') hkl;rw[g2];rcases g3 with⟨e,rfl⟩ |⟨a,e,e2⟩
 ·rw[<-aY6,e];rfl
 ·unfold GaE at e2;rw[<-aY6,e,e2];rfl
theorem BAt.know(h:BAt w B0 Bb Mb tg vc b)(hg:w.grownBy w' (some Mb)){q:C.Gate}{o:Int}(hm:MapAt prog 220 gaV GaE w' Mb (C.put b.known q o))(ho:1<=o/\o<=4000):BAt w' B0 Bb Mb tg vc {b with known:=C.put b.known q o}/\Up B0 tg w tg w':=by
 have hne:∀x t,tg x=some t->t≠ .wat->w'.heap[x]? =w.heap[x]? :=fun x t hx ht=>hg.block x (h.lt x t hx).2 fun e=>by
  obtain rfl:x=Mb:=by first | exact zAH e | exact(zAH e).symm
  rw[h.mt]at hx;exact ht (zAH hx).symm
 obtain⟨us,c1,c2⟩:=h.cl;obtain⟨p1,p2⟩:=C.aYz (q:=q) h.bo.k h.bo.nd ho;refine⟨⟨h.st.keep (TExt.refl tg) fun x hx=>hne x _ hx (by simp),⟨us,c1.keep (TExt.refl tg) fun x hx=>hne x _ hx (by simp),c2.keep (TExt.refl tg) fun x k hx=>hne x _ hx (by simp)⟩,hm,h.mt,fun x t hx=>⟨(h.lt x t hx).1,zAL (h.lt x t hx).2 hg.size⟩,⟨h.bo.n,h.bo.c,p1,p2,h.bo.s⟩⟩,⟨⟨hg.size,fun x hx hn=>⟨hn,hg.block x hx fun e=>?_⟩,fun x hx=>⟨hx,hne x _ hx (by simp)⟩⟩,?_⟩⟩
 ·obtain rfl:x=Mb:=by first | exact zAH e | exact(zAH e).symm
  rw[h.mt]at hn;cases hn
 ·have hb0:=h.lt Mb _ h.mt;exact(Below.refl _ _).grown hg (by omega) (fun g hg=>by obtain rfl:=zAH hg;exact hb0.1)
def LpG(w6:World)(B0 Bb Mb:Nat)(tg5:TgF)(us:List Value)(b2:C.Bd)(ls:List (List Int))(k:Nat)(wr:World):Prop:=
 ∃tg' vc',BAt wr B0 Bb Mb tg' vc' (C.clauses (ls.take k) b2)/\Below B0 w6 wr/\
  (∀x,x<w6.heap.size->tg5 x=none->(∀(j:Nat) (u:Value),j<k->us[j]? =some u->u.ownBlock≠some x)->tg' x=none/\wr.heap[x]? =w6.heap[x]?)/\(∀x,tg5 x=some .wl->tg' x=some .wl/\wr.heap[x]? =w6.heap[x]?)
theorem aSk{b2:C.Bd}{ls:List (List Int)}{k:Nat}{l:List Int}(h:ls[k]? =some l):C.clauses (ls.take (k+1)) b2=C.clause l (C.clauses (ls.take k) b2):=by
 unfold C.clauses;rw[List.take_add_one,h];simp[List.foldl_append]
theorem LpG.step{w6:World}{tg5:TgF}{us:List Value}{b2:C.Bd}{ls:List (List Int)}{k:Nat}{wr:World}{tg':TgF}{l:List Int}{u:Value}{wn:World}
 (hw:w6.heap.size<=wr.heap.size) (h2:Below B0 w6 wr) (h3:∀x,x<w6.heap.size->tg5 x=none->(∀(j:Nat) (u:Value),j<k->us[j]? =some u->u.ownBlock≠some x)->tg' x=none/\wr.heap[x]? =w6.heap[x]?) (h4:∀x,tg5 x=some .wl->tg' x=some .wl/\wr.heap[x]? =w6.heap[x]?)
 (hl:ls[k]? =some l) (hu:us[k]? =some u) (hc:CPost wr B0 Bb Mb tg' u (C.clause l (C.clauses (ls.take k) b2)) wn):LpG w6 B0 Bb Mb tg5 us b2 ls (k+1) wn:=by
 obtain⟨tg2,vc2,k1,k2,k3,k4⟩:=hc;refine⟨tg2,vc2,?_,h2.trans k2,fun x hx hn hj=>?_,fun x hx=>?_⟩
 ·rw[aSk hl];exact k1
 ·obtain⟨q1,q2⟩:=h3 x hx hn fun j u' hj' hu'=>hj j u' (by omega) hu'
  obtain⟨q3,q4⟩:=k3 x (by omega) q1 (hj k u (by omega) hu);exact⟨q3,q4.trans q2⟩
 ·obtain⟨q1,q2⟩:=h4 x hx;obtain⟨q3,q4⟩:=k4 x q1;exact⟨q3,q4.trans q2⟩
theorem aPr(h:BAt w B0 Bb Mb tg vc b){q:C.Gate}(h0:C.Ib q.1)(h1:C.Ib q.2.1)(h2:C.Ib q.2.2){f:FuncId}{caps:Array Value}{cl:Int->List (List Int)}(hT:Tells w tg f caps cl)(hcm:∀out,(cl out).length<=1000)(hc3:∀out,∀c∈cl out,c.length<=3)(fe:C.E->Bool):
 Calls prog 193 #[.pointer (some ⟨Bb,0,none⟩),gaV q, .func (.func f) #[] caps] w (GPost w B0 Bb Mb tg (C.made q cl fe b)):=by
 obtain⟨W1,hW1⟩:∃W1,W1=(w.alloc (.cells #[.int .i64 q.1, .int .i64 q.2.1, .int .i64 q.2.2] 220)):=⟨_,rfl⟩;have hb1:Below w.heap.size w W1:=by rw[hW1];exact al0
 have HS:=h.below hb1;have HU:=kH (h.up hb1);have hrow:W1.heap[w.heap.size]? =some (.cells #[.int .i64 q.1, .int .i64 q.2.1, .int .i64 q.2.2] 220 (0,0)):=by rw[hW1];exact heap_alloc_new w _
 obtain⟨ov⟩:=ov_ex W1;have g0:=ov.cell (show W1.cell? ⟨w.heap.size,0,none⟩=some (.int .i64 q.1) by rw[cell_of_row _ _ _ _ _ (0,0) hrow];rfl);have g1:=ov.cell (show W1.cell? ⟨w.heap.size,1,none⟩=some (.int .i64 q.2.1) by rw[cell_of_row _ _ _ _ _ (0,0) hrow];rfl);have g2:=ov.cell (show W1.cell? ⟨w.heap.size,2,none⟩=some (.int .i64 q.2.2) by rw[cell_of_row _ _ _ _ _ (0,0) hrow];rfl);have c2:=ov.cell HS.c2;have hlk:=fun u=>bBs HS.mp h0 h1 h2 (w':=ov.f u) ((ov.below u).block Mb (HS.lt Mb _ HS.mt).2)
 unfold gaV at hlk⊢;obtain⟨fnd,hfnd⟩:∃x,(C.look b.known q).isSome=x:=⟨_,rfl⟩;obtain⟨ix,hix⟩:∃x,(C.look b.known q).getD 0=x:=⟨_,rfl⟩;rw[hfnd,hix]at hlk;have Hfnd:=kH (And.intro hfnd hix);have HS:=kH HS;have Hq:=kH (And.intro h0 (And.intro h1 h2));have Hrow:=kH hrow;have HT:=kH (And.intro hT hcm);have Hc3:=kH hc3;have Hb1:=kH hb1;have Hbo:=kH h.bo;have Hlt:=kH (h.lt Bb _ h.st.2);have Hnew:=kH (h.none_ (zBJ _));clear h h0 h1 h2 hfnd hix hrow hT hcm hc3 hb1
 go_enter func193,ntmps193
 go_upto_region 1 with fail
 rw[<-hW1];clear hW1;refine aDq ov (by kernel_rfl) (by kernel_rfl) ?_
 repeat(go_big_quiet_step (fail))
 refine wpQuiet_nil ?_;rintro _ ⟨u,rfl⟩;have Hov:=kH (ov.below u);clear hlk g0 g1 g2 c2;generalize ov.f u=w4 at*;have HS4:=kH (HS.out.below Hov.out);have HU4:=kH (HU.out.trans (HS.out.up Hov.out));have hrow4:w4.heap[w.heap.size]? =some (.cells #[.int .i64 q.1, .int .i64 q.2.1, .int .i64 q.2.2] 220 (0,0)):=(Hov.out.block _ (gA Hrow.out).1).trans Hrow.out;have Hrow4:=kH hrow4;have c3:=HS4.out.c3;have f0:=HS4.out.st.frz 0;clear hrow4 HS HU Hov Hrow;cases fnd with
 | true=>
  obtain⟨o,ho⟩:=Option.isSome_iff_exists.1 Hfnd.out.1;have hix:ix=o:=by have:=Hfnd.out.2;rw[ho]at this;exact this.symm
  subst hix;have hk:=Hbo.out.k _ (C.aR9 ho);simp only at hk;have hmx:max ix 1=ix:=by omega
  have he:C.made q cl fe b=(ix,b):=by unfold C.made;rw[if_pos (.inl Hfnd.out.1),Hfnd.out.2,hmx]
  have He:=kH he;clear he ho;go_wp2;go_ret;rw[He.out];exact⟨rfl,tg,vc,HS4.out,HU4.out⟩
 | false=>
  have hno:C.look b.known q=none:=by
   cases e:C.look b.known q with
   | none=>rfl
   | some o=>have:=Hfnd.out.1;rw[e]at this;cases this
  have hix:ix=0:=by have:=Hfnd.out.2;rw[hno]at this;exact this.symm
  subst hix;have Hno:=kH hno;clear hno Hfnd;cases hfl:b.full with
  | true=>
   rw[hfl]at c3;have he:C.made q cl fe b=(1,b):=by unfold C.made;rw[if_pos (.inr hfl),Hno.out];rfl
   have He:=kH he;clear he;go_wp2;go_ret;rw[He.out];exact⟨rfl,tg,vc,HS4.out,HU4.out⟩
  | false=>
   rw[hfl]at c3;have HF:=kH (aGv HS4.out fe);have he:C.made q cl fe b=((C.fresh fe b).1,{C.clauses (cl (C.fresh fe b).1) (C.fresh fe b).2 with known:=C.put (C.clauses (cl (C.fresh fe b).1) (C.fresh fe b).2).known q (C.fresh fe b).1}):=by
    unfold C.made;rw[if_neg (by rw[Hno.out,hfl];simp)]
   obtain⟨r,hr⟩:∃r,C.fresh fe b=r:=⟨_,rfl⟩;have hfb:=C.aMf (f:=fe) Hbo.out;rw[hr]at HF he hfb;obtain⟨out,b2⟩:=r;have He:=kH he;have Hfb:=kH hfb;clear he hr hfb
   go_wp2_with fail
   refine HF.out.mono ?_;rintro e w5 ⟨rfl,tg5,v5,hS5,hU5⟩;have HS5:=kH hS5;have HU5:=kH (HU4.out.trans hU5);have hrow5:w5.heap[w.heap.size]? =some (.cells #[.int .i64 q.1, .int .i64 q.2.1, .int .i64 q.2.2] 220 (0,0)):=(hU5.un.no _ (gA Hrow4.out).1 Hnew.out).2.trans Hrow4.out;have Hrow5:=kH hrow5;have Hnt:=kH (hU5.un.no _ (gA Hrow4.out).1 Hnew.out).1;have Hlt5:=kH (show w.heap.size<w5.heap.size from zAL (gA Hrow4.out).1 hU5.un.size);have HB5:=kH (show B0<=w5.heap.size from by have:=Hlt.out;have:=hU5.un.size;have:=(gA Hrow4.out).1;omega);clear c3 f0 hrow5 hS5 hU5 HF HS4 Hrow4 hfl;have hen:=HT.out.1.1;have HC:=kH (HT.out.1.2 w5 (fun x hx hn=>(HU5.out.un.no x hx hn).2) out Hfb.out.2.1 Hfb.out.2.2)
   go_wp2_with fail
   refine HC.out.mono ?_;rintro e w6 ⟨go,rfl,hb6,us,o1,o2,o3,o4⟩;clear hen;obtain⟨ls,hls⟩:∃ls,cl out=ls:=⟨_,rfl⟩;obtain⟨m,hm⟩:∃m,ls.length=m:=⟨_,rfl⟩;have hmm:m<=1000:=by rw[<-hm,<-hls];exact HT.out.2 out
   have Hl3:=kH (show∀c∈ls,c.length<=3 from by rw[<-hls];exact Hc3.out out);rw[hls]at o1 o2 o3 o4 He;rw[hls];rw[hm]at o1 o2;rw[hm];have H6:=kH (HS5.out.below hb6);have HU6:=kH (HU5.out.trans (HS5.out.up hb6));have Ho:=kH (And.intro o1 (And.intro o2 (And.intro o3 o4)));have Hn5:=kH (fun x (hx:w5.heap.size<=x)=>HS5.out.none_ hx);have Hrow6:=kH ((hb6.block _ (gA Hrow5.out).1).trans Hrow5.out);clear o1 o2 o3 o4 hb6 HC Hrow5;go_wp2
   go_loopw [36] (fun i wr=>∃k:Nat,k<=m/\i= .int .i64 (k:Int)/\Hid (LpG w6 B0 Bb Mb tg5 us b2 ls k wr)) (fun i _=>m- (intOf i).toNat)
   case atStart=>exact⟨0,zBL _,rfl,kH ⟨tg5,v5,by rw[List.take_zero];exact H6.out,Below.refl _ _,fun x _ hn _=>⟨hn,rfl⟩,fun x hx=>⟨hx,rfl⟩⟩⟩
   case round=>
    obtain⟨k,hk,rfl,HL⟩:=hrel
    by_cases hlt:k<m
    ·obtain⟨l,hl⟩:∃l,ls[k]? =some l:=⟨_,zAB (by omega)⟩;obtain⟨u,hu⟩:∃u,us[k]? =some u:=⟨_,zAB (by have:=Ho.out.2.1;omega)⟩;obtain⟨tg',vc',l1,l2,l3,l4⟩:=HL.out;obtain⟨p1,p2⟩:=Ho.out.2.2.2 k u l hu hl;obtain⟨g9,o9,c9,e1,e2,_,_,_⟩:=aAg Ho.out.1 hu;injection e1 with e3 _ e6
     subst e6;injection e3 with e3
     injection e3 with e4 e5
     subst e4 e5;rw[zBH]at e2;have hgo:tg' go=none/\wr.heap[go]? =w6.heap[go]? :=by
      have hg5:=Ho.out.2.2.1 go rfl;refine l3 go (aC0 e2) (Hn5.out go hg5) fun j u' hj hu' he=>?_
      obtain⟨l',hl'⟩:∃l',ls[j]? =some l':=⟨_,zAB (by omega)⟩;exact((Ho.out.2.2.2 j u' l' hu' hl').2 go he).2.1 rfl
     have hgu:∀g,u.ownBlock=some g->tg' g=none/\wr.heap[g]? =w6.heap[g]? :=fun g hg=>by
      refine l3 g (p1.lt g hg) (Hn5.out g (p2 g hg).1) fun j u' hj hu' he=>?_
      exact(p2 g hg).2.2 j u' hu' (by omega) he
     have e2':wr.cell? ⟨go,k,none⟩=some u:=(aBn hgo.2).trans e2;have p3:OwnAt wr 3 1 u l.length (siv l):=p1.same fun g hg=>(hgu g hg).2
     obtain⟨Au,cu,hform⟩:=p1.form;subst hform;have hun:∀g,(Value.slice Au l.length cu).ownBlock=some g->B0<=g/\tg' g=none:=fun g hg=>⟨zBK HB5.out (p2 g hg).1,(hgu g hg).1⟩
     have HC:=kH (aGb l1 p3 hun (Hl3.out l (zAC hl)));have Hs:=kH (fun(wn:World) (hc:CPost wr B0 Bb Mb tg' (.slice Au l.length cu) (C.clause l (C.clauses (ls.take k) b2)) wn)=>LpG.step (l2.size) l2 l3 l4 hl hu hc);clear hl hu l1 l2 l3 l4 p1 p2 e2 hgo hgu p3 hun HL
     go_wp2_with fail
     refine HC.out.mono ?_;rintro e wn ⟨rfl,hcp⟩;have Hcp:=kH (Hs.out wn hcp);clear hcp e2';go_wp2;go_roundw
     case rel=>exact⟨k+1,by omega,by go_num,Hcp⟩
     case measure=>simp[intOf];omega
    ·have hkm:k=m:=by omega
     subst hkm;obtain⟨tg7,v7,l1,l2,l3,l4⟩:=HL.out;have ht:ls.take k=ls:=by rw[<-hm];exact List.take_length
     rw[ht]at l1;have H7:=kH l1;have hkey:tg7 w.heap.size=none/\wr.heap[w.heap.size]? =w6.heap[w.heap.size]? :=l3 _ (gA Hrow6.out).1 Hnt.out fun j u hj hu he=>by
      obtain⟨l',hl'⟩:∃l',ls[j]? =some l':=⟨_,zAB (by omega)⟩;have h5:=((Ho.out.2.2.2 j u l' hu hl').2 _ he).1;have h6:=(gA Hrow6.out).1;have:=Hlt5.out;omega
     have hrow7:=hkey.2.trans Hrow6.out;have y0:wr.cell? ⟨w.heap.size,0,none⟩=some (.int .i64 q.1):=by rw[cell_of_row _ _ _ _ _ (0,0) hrow7];rfl
     have y1:wr.cell? ⟨w.heap.size,1,none⟩=some (.int .i64 q.2.1):=by rw[cell_of_row _ _ _ _ _ (0,0) hrow7];rfl
     have y2:wr.cell? ⟨w.heap.size,2,none⟩=some (.int .i64 q.2.2):=by rw[cell_of_row _ _ _ _ _ (0,0) hrow7];rfl
     obtain⟨kl,hkl⟩:=aSj Hq.out.1 Hq.out.2.1 Hq.out.2.2;obtain⟨w9,hupd,hgr,hsz,hMp⟩:=(l1.mp.keep (w':=wr.drew) (R':=GaE) rfl (fun _ _ _ h=>h)).update aVs aVr underlying74 hkl (.int .i64 out);have hM:=hMp GaE out (fun _ _ _ _ h=>h) rfl;rw[bE8 l1.bo.nd]at hM;have hd:BAt wr.drew B0 Bb Mb tg7 v7 (C.clauses ls b2):=l1.dr ((Dr.refl _).drew);have HK:=kH (hd.know hgr hM Hfb.out.2);have HU7:=kH (show Up B0 tg w tg7 wr from⟨⟨zBK HU6.out.un.size l2.size,fun x hx hn=>by
      obtain⟨k1,k2⟩:=HU6.out.un.no x hx hn;obtain⟨k3,k4⟩:=l3 x (zAL hx HU6.out.un.size) k1 fun j u hj hu he=>by
       obtain⟨l',hl'⟩:∃l',ls[j]? =some l':=⟨_,zAB (by omega)⟩;have h5:=((Ho.out.2.2.2 j u l' hu hl').2 _ he).1;have:=Hlt5.out;omega
      exact⟨k3,k4.trans k2⟩,fun x hx=>by
      obtain⟨k1,k2⟩:=HU6.out.un.wl x hx;obtain⟨k3,k4⟩:=l4 x k1;exact⟨k3,k4.trans k2⟩⟩,HU6.out.bl.trans l2⟩)
     have c2:=l1.c2;unfold gaV at hupd;clear hMp hM hkl hrow7 hkey l1 l2 l3 l4 ht HL hgr hsz hd;go_wp2
     go_region
     clear hupd y0 y1 y2 c2;go_wp2;go_ret;rw[He.out];have hU:=HK.out.2;exact⟨rfl,tg7,v7,HK.out.1,⟨⟨zBK HU7.out.un.size hU.un.size,fun x hx hn=>by
      obtain⟨k1,k2⟩:=HU7.out.un.no x hx hn;obtain⟨k3,k4⟩:=hU.un.no x (zAL hx HU7.out.un.size) k1;exact⟨k3,k4.trans k2⟩,fun x hx=>by
      obtain⟨k1,k2⟩:=HU7.out.un.wl x hx;obtain⟨k3,k4⟩:=hU.un.wl x k1;exact⟨k3,k4.trans k2⟩⟩,(HU7.out.bl.drew).trans hU.bl⟩⟩
end
theorem aCm{w:World}{b:Nat}{cur:Array Value}{e:TypeId}(h:w.heap[b]? =some (.cells cur e (0,0)))(i:Nat):w.frozen? ⟨b,i,none⟩=false:=by simp[World.frozen?,h]
theorem beq_t{a b:Int}(h:a=b):(a == b)=true:=by simpa using h
theorem beq_f{a b:Int}(h:¬a=b):(a == b)=false:=by simpa using h
theorem aOs{w W1:World}{B0 Bb Mb:Nat}{tg:TgF}{vc:Value}{b:C.Bd}{e:TypeId}{x y:Value}(h:BAt w B0 Bb Mb tg vc b)(hb:Below w.heap.size w W1)(rx:W1.heap[w.heap.size]? =some (.cells #[x] e (0,0)))(ry:W1.heap[w.heap.size+1]? =some (.cells #[y] e (0,0)))(p q:Value){W2:World}(hW:W2=((W1.setCell ⟨w.heap.size,0,none⟩ p).setCell ⟨w.heap.size+1,0,none⟩ q).drew):
 Hid (BAt W2 B0 Bb Mb tg vc b)/\Hid (Up B0 tg w tg W2)/\W2.cell? ⟨w.heap.size,0,none⟩=some p/\W2.cell? ⟨w.heap.size+1,0,none⟩=some q/\Hid (Below w.heap.size w W2/\W2.heap[w.heap.size]? =some (.cells #[p] e (0,0))/\W2.heap[w.heap.size+1]? =some (.cells #[q] e (0,0))):=by
 have k1:CRow W1 (fun _=>some .st) .st e w.heap.size [x]:=⟨rx,rfl⟩;have k2:CRow W1 (fun _=>some .st) .st e (w.heap.size+1) [y]:=⟨ry,rfl⟩;have k3:=k1.set 0 p;have k4:CRow (W1.setCell ⟨w.heap.size,0,none⟩ p) (fun _=>some .st) .st e (w.heap.size+1) [y]:=⟨(Below.heap_setCell W1 ⟨w.heap.size,0,none⟩ p (w.heap.size+1) (by simp)).trans ry,rfl⟩;have k5:=k4.set 0 q;have k6:CRow ((W1.setCell ⟨w.heap.size,0,none⟩ p).setCell ⟨w.heap.size+1,0,none⟩ q) (fun _=>some .st) .st e w.heap.size ([x].set 0 p):=⟨(Below.heap_setCell (W1.setCell ⟨w.heap.size,0,none⟩ p) ⟨w.heap.size+1,0,none⟩ q w.heap.size (by simp)).trans k3.1,rfl⟩;have hB:Below w.heap.size w W2:=by
  rw[hW];exact((hb.setCell (p:=⟨w.heap.size,0,none⟩) (zBJ _) p).setCell (p:=⟨w.heap.size+1,0,none⟩) (by simp) q).drew
 refine⟨kH (h.below hB),kH (h.up hB),?_,?_,kH ⟨hB,?_,?_⟩⟩
 ·rw[hW];exact k6.cell rfl
 ·rw[hW];exact k5.cell rfl
 ·rw[hW];exact k6.1
 ·rw[hW];exact k5.1
section
variable {w w' : World} {B0 Bb Mb : Nat} {tg tg' : TgF} {vc : Value} {b : C.Bd}
theorem aD7(h:BAt w B0 Bb Mb tg vc b){x y:Int}(hx:C.Ib x)(hy:C.Ib y):
 Calls prog 161 #[.pointer (some ⟨Bb,0,none⟩), .int .i64 x, .int .i64 y] w (GPost w B0 Bb Mb tg (C.and x y b)):=by
 obtain⟨W1,hW1⟩:∃W1,W1=((w.alloc (.cells #[.int .i64 x] 3)).alloc (.cells #[.int .i64 y] 3)):=⟨_,rfl⟩;have hb1:Below w.heap.size w W1:=by rw[hW1];exact(al0).alloc (by simp) _
 have HS:=kH (h.below hb1);have HU:=kH (h.up hb1);have rx:W1.heap[w.heap.size]? =some (.cells #[.int .i64 x] 3 (0,0)):=by rw[hW1];exact aCi (aDf rfl)
 have ry:W1.heap[w.heap.size+1]? =some (.cells #[.int .i64 y] 3 (0,0)):=by rw[hW1];exact aDf (by simp)
 have cx:W1.cell? ⟨w.heap.size,0,none⟩=some (.int .i64 x):=by rw[cell_of_row _ _ _ _ _ (0,0) rx];rfl
 have cy:W1.cell? ⟨w.heap.size+1,0,none⟩=some (.int .i64 y):=by rw[cell_of_row _ _ _ _ _ (0,0) ry];rfl
 have fx:=aCm rx 0;have fy:=aCm ry 0;have Hr:=kH (And.intro rx ry);have hx':=hx;have hy':=hy;unfold C.Ib at hx' hy';have Hib:=kH (And.intro hx hy);have hno:∀x,w.heap.size<=x->tg x=none:=fun x hx=>h.none_ hx
 have Hno:=kH hno;have H2:=kH (fun(p q:Value) (W2:World) (hW:W2=((W1.setCell ⟨w.heap.size,0,none⟩ p).setCell ⟨w.heap.size+1,0,none⟩ q).drew)=>aOs h hb1 rx ry p q hW);clear h hb1 rx ry hx hy hno
 by_cases e1:x= -1
 ·have q1:=beq_t e1;have he:C.and x y b=(-1,b):=by unfold C.and;rw[if_pos (.inl e1)]
  have He:=kH he;clear e1 he
  go_enter func161,ntmps161
  go_upto_region 1 with fail
  rw[<-hW1];clear hW1;go_wp2;go_ret;rw[He.out];exact⟨rfl,tg,vc,HS.out,HU.out⟩
 have q1:=beq_f e1
 by_cases e2:y= -1
 ·have q2:=beq_t e2;have he:C.and x y b=(-1,b):=by unfold C.and;rw[if_pos (.inr (.inl e2))]
  have He:=kH he;clear e1 e2 he
  go_enter func161,ntmps161
  go_upto_region 1 with fail
  rw[<-hW1];clear hW1;go_wp2;go_ret;rw[He.out];exact⟨rfl,tg,vc,HS.out,HU.out⟩
 have q2:=beq_f e2
 by_cases e3:x= -y
 ·have q3:=beq_t e3;have he:C.and x y b=(-1,b):=by unfold C.and;rw[if_pos (.inr (.inr e3))]
  have He:=kH he;clear e1 e2 e3 he
  go_enter func161,ntmps161
  go_upto_region 1 with fail
  rw[<-hW1];clear hW1;go_wp2;go_ret;rw[He.out];exact⟨rfl,tg,vc,HS.out,HU.out⟩
 have q3:=beq_f e3
 by_cases e4:x=1\/x=y
 ·have he:C.and x y b=(y,b):=by unfold C.and;rw[if_neg (by rintro(h | h | h) <;> contradiction),if_pos e4]
  have He:=kH he
  by_cases e5:x=1
  ·have q4:=beq_t e5;clear e1 e2 e3 e4 e5 he
   go_enter func161,ntmps161
   go_upto_region 1 with fail
   rw[<-hW1];clear hW1;go_wp2;go_ret;rw[He.out];exact⟨rfl,tg,vc,HS.out,HU.out⟩
  ·have q4:=beq_f e5;have q5:=beq_t (e4.resolve_left e5);clear e1 e2 e3 e4 e5 he
   go_enter func161,ntmps161
   go_upto_region 1 with fail
   rw[<-hW1];clear hW1;go_wp2;go_ret;rw[He.out];exact⟨rfl,tg,vc,HS.out,HU.out⟩
 have q4:=beq_f (fun h=>e4 (.inl h));have q5:=beq_f (fun h=>e4 (.inr h))
 by_cases e6:y=1
 ·have q6:=beq_t e6;have he:C.and x y b=(x,b):=by unfold C.and;rw[if_neg (by rintro(h | h | h) <;> contradiction),if_neg e4,if_pos e6]
  have He:=kH he;clear e1 e2 e3 e4 e6 he
  go_enter func161,ntmps161
  go_upto_region 1 with fail
  rw[<-hW1];clear hW1;go_wp2;go_ret;rw[He.out];exact⟨rfl,tg,vc,HS.out,HU.out⟩
 have q6:=beq_f e6;have he:C.and x y b=C.made (0,min x y,max x y) (C.andCl (min x y) (max x y)) (fun e=>C.lsem b (min x y) e && C.lsem b (max x y) e) b:=by unfold C.and;rw[if_neg (by rintro(h | h | h) <;> contradiction),if_neg e4,if_neg e6]
 have He:=kH he;clear e1 e2 e3 e4 e6 he
 go_enter func161,ntmps161
 go_upto_region 1 with fail
 rw[<-hW1];clear hW1
 go_upto_region 7 with fail
 go_region
 rw[show(if y<x then y else x)=min x y from by omega,show(if x<y then y else x)=max x y from by omega];obtain⟨W2,hW2⟩:∃W2,W2=((W1.setCell ⟨w.heap.size,0,none⟩ (.int .i64 (min x y))).setCell ⟨w.heap.size+1,0,none⟩ (.int .i64 (max x y))).drew:=⟨_,rfl⟩;obtain⟨HS2,HU2,dx,dy,_⟩:=H2.out _ _ _ hW2;rw[<-hW2];have ibm:=Hib.out.1.min_ Hib.out.2;have ibM:=Hib.out.1.max_ Hib.out.2;obtain⟨p,hp⟩:∃p,min x y=p:=⟨_,rfl⟩;obtain⟨q,hq⟩:∃q,max x y=q:=⟨_,rfl⟩;rw[hp,hq]at He;rw[hp]at dx ibm⊢;rw[hq]at dy ibM⊢;have HM:=kH (aPr HS2.out (q:=(0,p,q)) (show C.Ib 0 from by unfold C.Ib;omega) ibm ibM (aW1 ibm ibM dx dy (Hno.out _ (zBJ _)) (Hno.out _ (Nat.le_succ _))) (fun out=>by simp[C.andCl]) (C.aMg _ _) (fun e=>C.lsem b p e && C.lsem b q e));unfold gaV at HM;clear hp hq ibm ibM hW2 H2 HS HU cx cy fx fy Hr hx' hy' q1 q2 q3 q4 q5 q6 Hno Hib HS2
 go_wp2_with fail
 refine HM.out.mono ?_;rintro e w3 ⟨rfl,tg3,v3,k1,k2⟩;have Hf:=kH (And.intro k1 (HU2.out.trans k2));clear k1 k2 dx dy;go_wp2;go_ret;rw[He.out];exact⟨rfl,tg3,v3,Hf.out.1,Hf.out.2⟩
end
section
variable {w w' : World} {B0 Bb Mb : Nat} {tg tg' : TgF} {vc : Value} {b : C.Bd}
theorem aOt(h:BAt w B0 Bb Mb tg vc b){x y:Int}(hx:C.Ib x)(hy:C.Ib y):
 Calls prog 162 #[.pointer (some ⟨Bb,0,none⟩), .int .i64 x, .int .i64 y] w (GPost w B0 Bb Mb tg (C.or x y b)):=by
 have HA:=kH (aD7 h hx.neg hy.neg);have ho:=(C.aDc h.bo hx.neg hy.neg).2;have He:=kH (show C.or x y b=(-(C.and (-x) (-y) b).1,(C.and (-x) (-y) b).2)from rfl);obtain⟨r,hr⟩:∃r,C.and (-x) (-y) b=r:=⟨_,rfl⟩;rw[hr]at HA He ho;unfold C.Ib at hx hy ho;clear h hr
 go_enter func162,ntmps162
 go_wp2_with fail
 refine HA.out.mono ?_;rintro e w3 ⟨rfl,tg3,v3,k1,k2⟩;have Hf:=kH (And.intro k1 k2);clear k1 k2;go_wp2;go_ret;rw[He.out];exact⟨rfl,tg3,v3,Hf.out.1,Hf.out.2⟩
theorem aY8(h:BAt w B0 Bb Mb tg vc b){c x y:Int}(hc:C.Ib c)(hx:C.Ib x)(hy:C.Ib y):
 Calls prog 151 #[.pointer (some ⟨Bb,0,none⟩), .int .i64 c, .int .i64 x, .int .i64 y] w (GPost w B0 Bb Mb tg (C.pick c x y b)):=by
 by_cases e1:c=1
 ·have q1:=beq_t e1;have He:=kH (show C.pick c x y b=(x,b) by unfold C.pick;rw[if_pos (.inl e1)]);have Hh:=kH h;clear e1 h hc hx hy
  go_enter func151,ntmps151
  go_wp2;go_ret;rw[He.out];exact⟨rfl,tg,vc,Hh.out,Up.refl _ _ _⟩
 have q1:=beq_f e1
 by_cases e2:x=y
 ·have q2:=beq_t e2;have He:=kH (show C.pick c x y b=(x,b) by unfold C.pick;rw[if_pos (.inr e2)]);have Hh:=kH h;clear e1 e2 h hc hx hy
  go_enter func151,ntmps151
  go_wp2;go_ret;rw[He.out];exact⟨rfl,tg,vc,Hh.out,Up.refl _ _ _⟩
 have q2:=beq_f e2
 by_cases e3:c= -1
 ·have q3:=beq_t e3;have He:=kH (show C.pick c x y b=(y,b) by unfold C.pick;rw[if_neg (by rintro(h | h) <;> contradiction),if_pos e3]);have Hh:=kH h;clear e1 e2 e3 h hc hx hy
  go_enter func151,ntmps151
  go_wp2;go_ret;rw[He.out];exact⟨rfl,tg,vc,Hh.out,Up.refl _ _ _⟩
 have q3:=beq_f e3;have he:C.pick c x y b=C.or (C.and c x b).1 (C.and (-c) y (C.and c x b).2).1 (C.and (-c) y (C.and c x b).2).2:=by unfold C.pick;rw[if_neg (by rintro(h | h) <;> contradiction),if_neg e3]
 have HA:=kH (aD7 h hc hx);have h1:=C.aDc h.bo hc hx;obtain⟨r1,hr1⟩:∃r,C.and c x b=r:=⟨_,rfl⟩;rw[hr1]at HA he h1;have h2:=C.aDc h1.1 hc.neg hy;have HB:=kH (fun(tg1:TgF) (v1:Value) (w1:World) (k:BAt w1 B0 Bb Mb tg1 v1 r1.2)=>aD7 k hc.neg hy);obtain⟨r2,hr2⟩:∃r,C.and (-c) y r1.2=r:=⟨_,rfl⟩;rw[hr2]at HB he h2;have HC:=kH (fun(tg1:TgF) (v1:Value) (w1:World) (k:BAt w1 B0 Bb Mb tg1 v1 r2.2)=>aOt k h1.2 h2.2);have He:=kH he;unfold C.Ib at hc;clear e1 e2 e3 he hr1 hr2 h1 h2 h hx hy
 go_enter func151,ntmps151
 go_wp2_with fail
 refine HA.out.mono ?_;rintro e w1 ⟨rfl,tg1,v1,k1,k2⟩;have U1:=kH k2;have HB1:=kH (HB.out tg1 v1 w1 k1);clear k1 k2 HA HB
 go_wp2_with fail
 refine HB1.out.mono ?_;rintro e w2 ⟨rfl,tg2,v2,k1,k2⟩;have U2:=kH (U1.out.trans k2);have HC1:=kH (HC.out tg2 v2 w2 k1);clear k1 k2 HC HB1 U1
 go_wp2_with fail
 refine HC1.out.mono ?_;rintro e w3 ⟨rfl,tg3,v3,k1,k2⟩;have Hf:=kH (And.intro k1 (U2.out.trans k2));clear k1 k2;go_wp2;go_ret;rw[He.out];exact⟨rfl,tg3,v3,Hf.out.1,Hf.out.2⟩
end
def WPost(w:World)(B0 Bb Mb:Nat)(tg:TgF)(r:List Int×C.Bd)(e:Ending)(w':World):Prop:=
 ∃A cap tg',e= .returned (.slice A r.1.length cap)/\WSt w B0 Bb Mb tg r (.slice A r.1.length cap) w' tg'
theorem WdNew.nil(W w:World)(tg:TgF):WdNew W w tg (.slice none 0 0) []:=⟨⟨by simp[siv], .inl ⟨rfl,rfl⟩⟩,fun g hg=>by cases hg⟩
theorem wb_at{l:List Int}(h:C.Wb l){i:Nat}(hi:i<l.length):C.Ib (l.getD i 0):=by
 rw[List.getD,zAB hi];exact h _ (zBM hi)
theorem aFw{c:Int}(hc:C.Ib c){x y:List Int}(hx:C.Wb x)(hy:C.Wb y){b:C.Bd}(hb:C.Bo b)(hl:x.length<=y.length):∀i,i<=x.length->C.Bo (C.aBm c x y b i).2/\C.Wb (C.aBm c x y b i).1
 | 0,_=>⟨hb,fun l h=>by cases h⟩
 | i+1,hi=>by
  obtain⟨h1,h2⟩:=aFw hc hx hy hb hl i (by omega);obtain⟨h3,h4⟩:=C.bDs h1 hc (wb_at hx (i:=i) (by omega)) (wb_at hy (i:=i) (by omega));exact⟨h3,fun l hm=>by
   rcases zBE.1 hm with hm | hm
   ·exact h2 l hm
   ·rw[zBD.1 hm];exact h4⟩
section
variable {w w' : World} {B0 Bb Mb : Nat} {tg tg' : TgF} {vc : Value} {b : C.Bd}
theorem aEm(h:BAt w B0 Bb Mb tg vc b){c:Int}(hc:C.Ib c){A1 A2:Option Addr}{c1 c2:Nat}{x y:List Int}(hx:WdAt w tg A1 c1 x)(hy:WdAt w tg A2 c2 y)(hxb:C.Wb x)(hyb:C.Wb y)(hl:x.length=y.length)(hm:x.length<=100000):
 Calls prog 118 #[.pointer (some ⟨Bb,0,none⟩), .int .i64 c, .slice A1 x.length c1, .slice A2 y.length c2] w (WPost w B0 Bb Mb tg (C.picks c x y b)):=by
 have hB:=h.lt Bb _ h.st.2;obtain⟨m,hxl⟩:∃m,x.length=m:=⟨_,rfl⟩;have Hbo:=kH (aFw hc hxb hyb h.bo (by omega));have Hc:=kH hc;have Hw:=kH (And.intro hx hy);have Hwb:=kH (And.intro hxb hyb);have Hl:=kH (And.intro hxl hl);have HW0:=kH (show WSt w B0 Bb Mb tg (C.aBm c x y b 0) (.slice none 0 0) w tg from⟨⟨vc,h⟩,Up.refl _ _ _,WdNew.nil _ _ _⟩);have He:=kH (show C.picks c x y b=C.aBm c x y b m from by unfold C.picks;rw[hxl]);have Hcf:=kH (show∀(args:Array Value) (X:World),Sem.run prog (callFunc 151 args) X= .ok (.enter 151 args) X from fun args X=>by simp[go_sem,callFunc,Tryz.f151]);rw[<-hl,hxl];rw[hxl]at hm;clear h hc hx hy hxb hyb hl hxl
 go_enter func118,ntmps118
 go_wp2
 go_loopw [9,13] (fun v i wr=>∃k:Nat,k<=m/\i= .int .i64 (k:Int)/\∃A cap tg',v= .slice A k cap/\Hid (WSt w B0 Bb Mb tg (C.aBm c x y b k) v wr tg')) (fun _ i _=>m- (intOf i).toNat)
 case atStart=>exact⟨0,zBL _,rfl,none,0,tg,rfl,HW0⟩
 case round=>
  obtain⟨k,hk,rfl,A,cap,tgk,rfl,HS⟩:=hrel
  by_cases hlt:k<m
  ·have hX:=Hw.out.1.up HS.out.up;have hY:=Hw.out.2.up HS.out.up;obtain⟨g1,o1,rfl,e1⟩:=hX.cell (i:=k) (by have:=Hl.out.1;omega);obtain⟨g2,o2,rfl,e2⟩:=hY.cell (i:=k) (by have:=Hl.out.1;have:=Hl.out.2;omega);obtain⟨xk,hxk⟩:∃v,x.getD k 0=v:=⟨_,rfl⟩;obtain⟨yk,hyk⟩:∃v,y.getD k 0=v:=⟨_,rfl⟩;obtain⟨r,hr⟩:∃r,C.aBm c x y b k=r:=⟨_,rfl⟩;obtain⟨q,hq⟩:∃q,C.pick c xk yk r.2=q:=⟨_,rfl⟩;have hnx:C.aBm c x y b (k+1)=(r.1 ++ [q.1],q.2):=by rw[C.aBm,hxk,hyk,hr,hq]
   obtain⟨vck,hbk⟩:=HS.out.bu;rw[hr]at hbk HS;rw[hxk]at e1;rw[hyk]at e2;have hrl:r.1.length=k:=by rw[<-hr];exact C.aCa
   have hbd:BAt wr.drew B0 Bb Mb tgk vck r.2:=hbk.dr ((Dr.refl _).drew);have hud:Up B0 tgk wr tgk wr.drew:=hbk.up ((Below.refl _ _).drew);have HP:=kH (aY8 hbd Hc.out (by rw[<-hxk];exact wb_at Hwb.out.1 (by have:=Hl.out.1;omega)) (by rw[<-hyk];exact wb_at Hwb.out.2 (by have:=Hl.out.1;have:=Hl.out.2;omega)) (x:=xk) (y:=yk));rw[hq]at HP;have Hud:=kH hud;have Hnx:=kH (And.intro hnx hrl);clear hX hY hxk hyk hr hq hbk hbd hud hnx hrl
   go_upto_region 5 with(fail)
   go_wp2
   go_region_law (first
    | (refine aI1 rfl 151 Hcf.out (.tmp 17) (.tmp 18) (.tmp 22) (.tmp 26) _ _ _ _ rfl (.pointer (some ⟨Bb, 0, none⟩)) (.int .i64 c) (.int .i64 xk) (.int .i64 yk) rfl rfl rfl rfl HP.out ?_
       rintro e w2 ⟨rfl,tg2,v2,k1,k2⟩;refine⟨_,rfl,?_⟩;have HK:=kH (show WSt w B0 Bb Mb tg (r.1,q.2) (.slice A k cap) w2 tg2 from⟨⟨v2,k1⟩,HS.out.up.trans (Hud.out.trans k2),HS.out.nw.up (Hud.out.trans k2)⟩);clear k1 k2)
    | (refine aBp _ rfl (.tmp 16) (.tmp 28) 69 rfl 3 (.int .i64 0) 1 8 underlying69 Tryz.sinfoInt rfl (by decide) (.slice A k cap) k (siv r.1) (by go_simp) ((by have h0 := HK.out.nw.1; rw [show ((r.1, q.2) : List Int × C.Bd).1.length = k from Hnx.out.2] at h0; exact h0.alloc _)) (some ⟨w2.heap.size, 0, none⟩) 1 1 [.int .i64 q.1] (by go_simp) rfl (aE9 w2 [.int .i64 q.1] _) (by simp; rfl) (by omega) (by decide) ?_
       intro v' w4 hown hgr hat;obtain⟨Av,cv,hv⟩:=hown.form;subst hv;have Hq:=kH (HK.out.app (by omega) (l:=q.1) (by rw[show((r.1,q.2):List Int×C.Bd).1.length=k from Hnx.out.2];exact hown) hgr hat);clear hown hgr hat))
   all_goals
    go_wp2;go_roundw
    case rel=>exact⟨k+1,by omega,by go_num,Av,cv,tg2,rfl,by rw[Hnx.out.1];exact Hq⟩
    case measure=>simp[intOf];omega
  ·have hkm:k=m:=by omega
   subst hkm;go_wp2;go_ret;rw[He.out];have hlen:(C.aBm c x y b k).1.length=k:=C.aCa;refine⟨A,cap,tgk,?_,?_⟩
   ·rw[hlen];rfl
   ·rw[hlen];exact HS.out
end
end
end Go.Proofs.YtchdbhggbdcapaaGreat
