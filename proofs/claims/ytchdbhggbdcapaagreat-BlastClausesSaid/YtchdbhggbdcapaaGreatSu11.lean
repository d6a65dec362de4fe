/- Part. -/
import Derived.Test.YtchdbhggbdcapaaGreatSuLX
import Derived.Test.YtchdbhggbdcapaaGreatChecked
import Derived.Test.YtchdbhggbdcapaaGreatSu10
import Derived.Deep.DeepCutAuto
set_option linter.unusedVariables false
set_option linter.unusedSimpArgs false
set_option maxRecDepth 100000
set_option maxHeartbeats 16000000
namespace Go.Proofs.YtchdbhggbdcapaaGreat
open _root_.Go.Proofs.Tryz
section
open Go.RowKit
inductive Tg where
 | st | cls | lrn | wat | val | lvl | rsn | trl | lim | wgt | phs | wl | cl (k:Nat)
deriving DecidableEq
abbrev TgF:=Nat->Option Tg
def tput(tg:TgF)(b:Nat)(t:Tg):TgF:=fun x=>if x=b then some t else tg x
def TExt(tg tg':TgF):Prop:=∀b t,tg b=some t->tg' b=some t
theorem TExt.refl(tg:TgF):TExt tg tg:=fun _ _ h=>h
theorem aMh{tg:TgF}{b:Nat}(h:tg b=none)(t:Tg):TExt tg (tput tg b t):=fun x u hx=>by
 unfold tput
 by_cases e:x=b
 ·subst e;rw[h]at hx;cases hx
 ·rw[if_neg e];exact hx
theorem aLc(tg:TgF)(b:Nat)(t:Tg):tput tg b t b=some t:=by unfold tput;rw[if_pos rfl]
theorem aOn{tg:TgF}{b x:Nat}(h:x≠b)(t:Tg):tput tg b t x=tg x:=by unfold tput;rw[if_neg h]
def siv(l:List Int):List Value:=l.map (Value.int .i64)
def snv(l:List Nat):List Value:=l.map fun(k:Nat)=>Value.int .i64 (k:Int)
theorem aBu(l:List Int):(siv l).length=l.length:=by simp[siv]
theorem aVl(l:List Nat):(snv l).length=l.length:=by simp[snv]
def CRow(w:World)(tg:TgF)(t:Tg)(e:TypeId)(b:Nat)(xs:List Value):Prop:=w.heap[b]? =some (.cells xs.toArray e (0,0))/\tg b=some t
def COwn(w:World)(tg:TgF)(t:Tg)(e:TypeId)(v:Value)(n:Nat)(xs:List Value):Prop:=OwnAt w e 1 v n xs/\∀g,v.ownBlock=some g->tg g=some t
def CEls(w:World)(tg:TgF)(tf:Nat->Tg)(us:List Value)(cs:List (List Value)):Prop:=
 us.length=cs.length/\∀k c,cs[k]? =some c->∃u,us[k]? =some u/\COwn w tg (tf k) 3 u c.length c
section
variable {w w' : World} {tg tg' : TgF} {t : Tg} {e : TypeId} {b n : Nat} {v : Value} {xs us : List Value} {cs : List (List Value)} {tf : Nat -> Tg}
theorem CRow.keep(h:CRow w tg t e b xs)(hx:TExt tg tg')(hk:∀b,tg b=some t->w'.heap[b]? =w.heap[b]?):CRow w' tg' t e b xs:=⟨(hk b h.2).trans h.1,hx _ _ h.2⟩
theorem COwn.keep(h:COwn w tg t e v n xs)(hx:TExt tg tg')(hk:∀b,tg b=some t->w'.heap[b]? =w.heap[b]?):COwn w' tg' t e v n xs:=
 ⟨h.1.same fun g hg=>hk g (h.2 g hg),fun g hg=>hx _ _ (h.2 g hg)⟩
theorem CEls.keep(h:CEls w tg tf us cs)(hx:TExt tg tg')(hk:∀b k,tg b=some (tf k)->w'.heap[b]? =w.heap[b]?):CEls w' tg' tf us cs:=
 ⟨h.1,fun k c hc=>by
  obtain⟨u,hu,ho⟩:=h.2 k c hc;exact⟨u,hu,ho.keep hx fun b hb=>hk b k hb⟩⟩
theorem CRow.cell(h:CRow w tg t e b xs){i:Nat}{u:Value}(hi:xs[i]? =some u):w.cell? ⟨b,i,none⟩=some u:=by
 rw[cell_of_row w b i _ _ _ h.1];simpa using hi
theorem CRow.frz(h:CRow w tg t e b xs)(i:Nat):w.frozen? ⟨b,i,none⟩=false:=by simp[World.frozen?,h.1]
theorem CRow.lt(h:CRow w tg t e b xs):b<w.heap.size:=(gA h.1).1
theorem CRow.set(h:CRow w tg t e b xs)(i:Nat)(u:Value):CRow (w.setCell ⟨b,i,none⟩ u) tg t e b (xs.set i u):=by
 refine⟨?_,h.2⟩;rw[heap_setCell_same w b i _ _ _ h.1];simp
end
structure Sv where
 cl:Value
 lr:Value
 tr:Value
 li:Value
 wa:Nat
 va:Nat
 le:Nat
 re:Nat
 we:Nat
 ph:Nat
 ri:Value
def stv(n:Nat)(v:Sv)(nxt:Nat):List Value:=
 [v.cl,v.lr, .slice (some ⟨v.wa,0,none⟩) (2*n+2) (2*n+2), .slice (some ⟨v.va,0,none⟩) (n+1) (n+1), .slice (some ⟨v.le,0,none⟩) (n+1) (n+1), .slice (some ⟨v.re,0,none⟩) (n+1) (n+1),v.tr,v.li,
  .int .i64 (nxt:Int), .slice (some ⟨v.we,0,none⟩) (n+1) (n+1),v.ri, .slice (some ⟨v.ph,0,none⟩) (n+1) (n+1)]
structure SAt(w:World)(B0 Sb:Nat)(tg:TgF)(n:Nat)(v:Sv)(s:S.Sol):Prop where
 st:CRow w tg .st 104 Sb (stv n v s.nxt)
 va:CRow w tg .val 3 v.va (siv s.val)
 le:CRow w tg .lvl 3 v.le (snv s.lvl)
 re:CRow w tg .rsn 3 v.re (siv s.rsn)
 ph:CRow w tg .phs 3 v.ph (siv s.phs)
 we:∃fs,CRow w tg .wgt 102 v.we fs/\fs.length=n+1/\∀f∈fs,∃x,f= .float .f64 x
 ri:∃x,v.ri= .float .f64 x
 tr:COwn w tg .trl 3 v.tr s.trl.length (siv s.trl)
 li:COwn w tg .lim 3 v.li s.lim.length (snv s.lim)
 wa:∃us,CRow w tg .wat 37 v.wa us/\CEls w tg (fun _=> .wl) us (s.wat.map snv)
 cl:∃us,COwn w tg .cls 37 v.cl s.cls.length us/\CEls w tg .cl us (s.cls.map siv)
 lr:∃us,COwn w tg .lrn 37 v.lr s.lrn.length us/\CEls w tg (fun _=> .wl) us (s.lrn.map siv)
 lt:∀b t,tg b=some t->B0<=b/\b<w.heap.size
 nv:s.val.length=n+1
 nl:s.lvl.length=n+1
 nr:s.rsn.length=n+1
 np:s.phs.length=n+1
 nw:s.wat.length=2*n+2
structure Un(tg:TgF)(w:World)(tg':TgF)(w':World):Prop where
 size:w.heap.size<=w'.heap.size
 no:∀b,b<w.heap.size->tg b=none->tg' b=none/\w'.heap[b]? =w.heap[b]?
 wl:∀b,tg b=some .wl->tg' b=some .wl/\w'.heap[b]? =w.heap[b]?
theorem Un.refl(tg:TgF)(w:World):Un tg w tg w:=⟨zBJ _,fun _ _ h=>⟨h,rfl⟩,fun _ h=>⟨h,rfl⟩⟩
theorem Un.trans{tg tg' tg'':TgF}{w w' w'':World}(h:Un tg w tg' w')(k:Un tg' w' tg'' w''):Un tg w tg'' w'':=
 ⟨zBK h.size k.size,fun b hb hn=>by
  obtain⟨h1,h2⟩:=h.no b hb hn;obtain⟨k1,k2⟩:=k.no b (zAL hb h.size) h1;exact⟨k1,k2.trans h2⟩,fun b hb=>by
  obtain⟨h1,h2⟩:=h.wl b hb;obtain⟨k1,k2⟩:=k.wl b h1;exact⟨k1,k2.trans h2⟩⟩
section
variable {w w' : World} {B0 Sb n : Nat} {tg tg' : TgF} {v : Sv} {s : S.Sol}
theorem SAt.none_(h:SAt w B0 Sb tg n v s){b:Nat}(hb:w.heap.size<=b):tg b=none:=by
 cases e:tg b with
 | none=>rfl
 | some t=>have:=(h.lt b t e).2;omega
theorem SAt.frame(h:SAt w B0 Sb tg n v s)(hs:w.heap.size<=w'.heap.size)(hk:∀b t,tg b=some t->w'.heap[b]? =w.heap[b]?):SAt w' B0 Sb tg n v s:=by
 have hx:=TExt.refl tg;obtain⟨fs,f1,f2,f3⟩:=h.we;obtain⟨us,u1,u2⟩:=h.wa;obtain⟨cs,c1,c2⟩:=h.cl;obtain⟨ls,l1,l2⟩:=h.lr;exact⟨h.st.keep hx fun b hb=>hk b _ hb,h.va.keep hx fun b hb=>hk b _ hb,h.le.keep hx fun b hb=>hk b _ hb,h.re.keep hx fun b hb=>hk b _ hb,h.ph.keep hx fun b hb=>hk b _ hb,⟨fs,f1.keep hx fun b hb=>hk b _ hb,f2,f3⟩,h.ri,
  h.tr.keep hx fun b hb=>hk b _ hb,h.li.keep hx fun b hb=>hk b _ hb,⟨us,u1.keep hx fun b hb=>hk b _ hb,u2.keep hx fun b k hb=>hk b _ hb⟩,⟨cs,c1.keep hx fun b hb=>hk b _ hb,c2.keep hx fun b k hb=>hk b _ hb⟩,⟨ls,l1.keep hx fun b hb=>hk b _ hb,l2.keep hx fun b k hb=>hk b _ hb⟩,
  fun b t hb=>⟨(h.lt b t hb).1,zAL (h.lt b t hb).2 hs⟩,h.nv,h.nl,h.nr,h.np,h.nw⟩
theorem SAt.below(h:SAt w B0 Sb tg n v s)(hb:Below w.heap.size w w'):SAt w' B0 Sb tg n v s:=h.frame hb.size fun b t ht=>hb.block b (h.lt b t ht).2
theorem SAt.dr(h:SAt w B0 Sb tg n v s)(hb:Dr w w'):SAt w' B0 Sb tg n v s:=h.below (hb.below _)
structure SKeep(w:World)(B0 Sb:Nat)(tg:TgF)(n:Nat)(v:Sv)(s:S.Sol)(T:Tg->Prop):Prop where
 st:¬T .st->CRow w tg .st 104 Sb (stv n v s.nxt)
 va:¬T .val->CRow w tg .val 3 v.va (siv s.val)
 le:¬T .lvl->CRow w tg .lvl 3 v.le (snv s.lvl)
 re:¬T .rsn->CRow w tg .rsn 3 v.re (siv s.rsn)
 ph:¬T .phs->CRow w tg .phs 3 v.ph (siv s.phs)
 we:¬T .wgt->∃fs,CRow w tg .wgt 102 v.we fs/\fs.length=n+1/\∀f∈fs,∃x,f= .float .f64 x
 tr:¬T .trl->COwn w tg .trl 3 v.tr s.trl.length (siv s.trl)
 li:¬T .lim->COwn w tg .lim 3 v.li s.lim.length (snv s.lim)
 wa:¬T .wat->¬T .wl->∃us,CRow w tg .wat 37 v.wa us/\CEls w tg (fun _=> .wl) us (s.wat.map snv)
 cl:¬T .cls->(∀k,¬T (.cl k))->∃us,COwn w tg .cls 37 v.cl s.cls.length us/\CEls w tg .cl us (s.cls.map siv)
 lr:¬T .lrn->¬T .wl->∃us,COwn w tg .lrn 37 v.lr s.lrn.length us/\CEls w tg (fun _=> .wl) us (s.lrn.map siv)
theorem SAt.keep(h:SAt w B0 Sb tg n v s)(hx:TExt tg tg')(T:Tg->Prop)(hk:∀b t,tg b=some t->¬T t->w'.heap[b]? =w.heap[b]?):SKeep w' B0 Sb tg' n v s T:=by
 obtain⟨fs,f1,f2,f3⟩:=h.we;obtain⟨us,u1,u2⟩:=h.wa;obtain⟨cs,c1,c2⟩:=h.cl;obtain⟨ls,l1,l2⟩:=h.lr;exact⟨fun hn=>h.st.keep hx fun b hb=>hk b _ hb hn,fun hn=>h.va.keep hx fun b hb=>hk b _ hb hn,fun hn=>h.le.keep hx fun b hb=>hk b _ hb hn,fun hn=>h.re.keep hx fun b hb=>hk b _ hb hn,fun hn=>h.ph.keep hx fun b hb=>hk b _ hb hn,fun hn=>⟨fs,f1.keep hx fun b hb=>hk b _ hb hn,f2,f3⟩,
  fun hn=>h.tr.keep hx fun b hb=>hk b _ hb hn,fun hn=>h.li.keep hx fun b hb=>hk b _ hb hn,fun hn h2=>⟨us,u1.keep hx fun b hb=>hk b _ hb hn,u2.keep hx fun b k hb=>hk b _ hb h2⟩,fun hn h2=>⟨cs,c1.keep hx fun b hb=>hk b _ hb hn,c2.keep hx fun b k hb=>hk b _ hb (h2 k)⟩,
  fun hn h2=>⟨ls,l1.keep hx fun b hb=>hk b _ hb hn,l2.keep hx fun b k hb=>hk b _ hb h2⟩⟩
theorem aDd(l:List Int)(i:Nat)(x:Int):siv (l.set i x)=(siv l).set i (.int .i64 x):=by simp[siv,List.map_set]
theorem bDu(l:List Nat)(i:Nat)(x:Nat):snv (l.set i x)=(snv l).set i (.int .i64 (x:Int)):=by simp[snv,List.map_set]
theorem aEl(l m:List Int):siv (l ++ m)=siv l ++ siv m:=by simp[siv]
theorem aLd(l m:List Nat):snv (l ++ m)=snv l ++ snv m:=by simp[snv]
theorem aBx{l:List Int}{i:Nat}(hi:i<l.length):(siv l)[i]? =some (.int .i64 (l.getD i 0)):=by
 unfold siv;rw[zAW,List.getD,zAB hi];rfl
theorem aY0{l:List Nat}{i:Nat}(hi:i<l.length):(snv l)[i]? =some (.int .i64 ((l.getD i 0:Nat):Int)):=by
 unfold snv;rw[zAW,List.getD,zAB hi];rfl
theorem SAt.other(h:SAt w B0 Sb tg n v s){b:Nat}{t:Tg}(hb:tg b=some t)(i:Nat)(u:Value):∀b' t',tg b'=some t'->¬t'=t->(w.setCell ⟨b,i,none⟩ u).heap[b']? =w.heap[b']? :=fun b' t' hb' hne=>
 Below.heap_setCell w ⟨b,i,none⟩ u b' fun e=>hne (by subst e;rw[hb]at hb';exact(zAH hb').symm)
theorem aAf(w:World)(p:Addr)(u:Value):(w.setCell p u).heap.size=w.heap.size:=by
 have h1:=((Below.refl 0 w).setCell (p:=p) (zBL _) u).size;unfold World.setCell;split <;> simp
theorem Un.set{b:Nat}{t:Tg}(hb:tg b=some t)(hne:t≠ .wl)(i:Nat)(u:Value):Un tg w tg (w.setCell ⟨b,i,none⟩ u):=
 ⟨zAM (aAf _ _ _).symm,fun b' _ hn=>⟨hn,Below.heap_setCell w ⟨b,i,none⟩ u b' fun e=>by subst e;rw[hb]at hn;cases hn⟩,fun b' hw=>⟨hw,Below.heap_setCell w ⟨b,i,none⟩ u b' fun e=>by subst e;rw[hb]at hw;exact hne (zAH hw)⟩⟩
theorem SAt.setVal(h:SAt w B0 Sb tg n v s)(i:Nat)(x:Int):SAt (w.setCell ⟨v.va,i,none⟩ (.int .i64 x)) B0 Sb tg n v {s with val:=s.val.set i x}:=by
 have k:=h.keep (TExt.refl tg) (fun t=>t= .val) (h.other h.va.2 i (.int .i64 x));refine⟨k.st (by simp),?_,k.le (by simp),k.re (by simp),k.ph (by simp),k.we (by simp),h.ri,k.tr (by simp),k.li (by simp),k.wa (by simp) (by simp),k.cl (by simp) (by simp),k.lr (by simp) (by simp),fun b t hb=>by rw[aAf];exact h.lt b t hb,by simpa using h.nv,h.nl,h.nr,h.np,h.nw⟩
 show CRow _ tg .val _ v.va (siv (s.val.set i x))
 rw[aDd];exact h.va.set i _
theorem SAt.setLvl(h:SAt w B0 Sb tg n v s)(i:Nat)(x:Nat):SAt (w.setCell ⟨v.le,i,none⟩ (.int .i64 (x:Int))) B0 Sb tg n v {s with lvl:=s.lvl.set i x}:=by
 have k:=h.keep (TExt.refl tg) (fun t=>t= .lvl) (h.other h.le.2 i (.int .i64 (x:Int)));refine⟨k.st (by simp),k.va (by simp),?_,k.re (by simp),k.ph (by simp),k.we (by simp),h.ri,k.tr (by simp),k.li (by simp),k.wa (by simp) (by simp),k.cl (by simp) (by simp),k.lr (by simp) (by simp),fun b t hb=>by rw[aAf];exact h.lt b t hb,h.nv,by simpa using h.nl,h.nr,h.np,h.nw⟩
 show CRow _ tg .lvl _ v.le (snv (s.lvl.set i x))
 rw[bDu];exact h.le.set i _
theorem SAt.setRsn(h:SAt w B0 Sb tg n v s)(i:Nat)(x:Int):SAt (w.setCell ⟨v.re,i,none⟩ (.int .i64 x)) B0 Sb tg n v {s with rsn:=s.rsn.set i x}:=by
 have k:=h.keep (TExt.refl tg) (fun t=>t= .rsn) (h.other h.re.2 i (.int .i64 x));refine⟨k.st (by simp),k.va (by simp),k.le (by simp),?_,k.ph (by simp),k.we (by simp),h.ri,k.tr (by simp),k.li (by simp),k.wa (by simp) (by simp),k.cl (by simp) (by simp),k.lr (by simp) (by simp),fun b t hb=>by rw[aAf];exact h.lt b t hb,h.nv,h.nl,by simpa using h.nr,h.np,h.nw⟩
 show CRow _ tg .rsn _ v.re (siv (s.rsn.set i x))
 rw[aDd];exact h.re.set i _
theorem SAt.setPhs(h:SAt w B0 Sb tg n v s)(i:Nat)(x:Int):SAt (w.setCell ⟨v.ph,i,none⟩ (.int .i64 x)) B0 Sb tg n v {s with phs:=s.phs.set i x}:=by
 have k:=h.keep (TExt.refl tg) (fun t=>t= .phs) (h.other h.ph.2 i (.int .i64 x));refine⟨k.st (by simp),k.va (by simp),k.le (by simp),k.re (by simp),?_,k.we (by simp),h.ri,k.tr (by simp),k.li (by simp),k.wa (by simp) (by simp),k.cl (by simp) (by simp),k.lr (by simp) (by simp),fun b t hb=>by rw[aAf];exact h.lt b t hb,h.nv,h.nl,h.nr,by simpa using h.np,h.nw⟩
 show CRow _ tg .phs _ v.ph (siv (s.phs.set i x))
 rw[aDd];exact h.ph.set i _
theorem SAt.setWgt(h:SAt w B0 Sb tg n v s)(i:Nat)(x:Value)(hx:∃y,x= .float .f64 y):SAt (w.setCell ⟨v.we,i,none⟩ x) B0 Sb tg n v s:=by
 obtain⟨fs,f1,f2,f3⟩:=h.we;have k:=h.keep (TExt.refl tg) (fun t=>t= .wgt) (h.other f1.2 i x);refine⟨k.st (by simp),k.va (by simp),k.le (by simp),k.re (by simp),k.ph (by simp),⟨_,f1.set i x,by simpa using f2,fun f hf=>?_⟩,h.ri,k.tr (by simp),k.li (by simp),k.wa (by simp) (by simp),k.cl (by simp) (by simp),k.lr (by simp) (by simp),fun b t hb=>by rw[aAf];exact h.lt b t hb,h.nv,h.nl,h.nr,h.np,h.nw⟩;rcases List.mem_or_eq_of_mem_set hf with hf | rfl
 ·exact f3 f hf
 ·exact hx
theorem SAt.setSt(h:SAt w B0 Sb tg n v s)(i:Nat)(u:Value){v':Sv}{s':S.Sol}(hst:(stv n v s.nxt).set i u=stv n v' s'.nxt)(k2:SKeep (w.setCell ⟨Sb,i,none⟩ u) B0 Sb tg n v' s' (fun t=>t= .st))(hri:∃x,v'.ri= .float .f64 x)
 (e1:s'.val.length=n+1) (e2:s'.lvl.length=n+1) (e3:s'.rsn.length=n+1) (e4:s'.phs.length=n+1) (e5:s'.wat.length=2*n+2):SAt (w.setCell ⟨Sb,i,none⟩ u) B0 Sb tg n v' s':=by
 refine⟨?_,k2.va (by simp),k2.le (by simp),k2.re (by simp),k2.ph (by simp),k2.we (by simp),hri,k2.tr (by simp),k2.li (by simp),k2.wa (by simp) (by simp),k2.cl (by simp) (by simp),k2.lr (by simp) (by simp),fun b t hb=>by rw[aAf];exact h.lt b t hb,e1,e2,e3,e4,e5⟩;rw[<-hst];exact h.st.set i u
theorem SAt.setNxt(h:SAt w B0 Sb tg n v s)(x:Nat):SAt (w.setCell ⟨Sb,8,none⟩ (.int .i64 (x:Int))) B0 Sb tg n v {s with nxt:=x}:=by
 have k:=h.keep (TExt.refl tg) (fun t=>t= .st) (h.other h.st.2 8 (.int .i64 (x:Int)));exact h.setSt 8 _ (v':=v) (s':={s with nxt:=x}) rfl ⟨fun hn=>absurd rfl hn,k.va,k.le,k.re,k.ph,k.we,k.tr,k.li,k.wa,k.cl,k.lr⟩ h.ri h.nv h.nl h.nr h.np h.nw
theorem SAt.setRi(h:SAt w B0 Sb tg n v s)(x:Value)(hx:∃y,x= .float .f64 y):SAt (w.setCell ⟨Sb,10,none⟩ x) B0 Sb tg n {v with ri:=x} s:=by
 have k:=h.keep (TExt.refl tg) (fun t=>t= .st) (h.other h.st.2 10 x);exact h.setSt 10 _ (v':={v with ri:=x}) (s':=s) rfl ⟨fun hn=>absurd rfl hn,k.va,k.le,k.re,k.ph,k.we,k.tr,k.li,k.wa,k.cl,k.lr⟩ hx h.nv h.nl h.nr h.np h.nw
theorem aFu{W w1:World}{t:Tg}{u u':Value}(hW:Below w.heap.size w W)(hu:∀g,u.ownBlock=some g->tg g=some t)(hlt:∀b t,tg b=some t->B0<=b/\b<w.heap.size)(hg:W.grownBy w1 u.ownBlock):
 ∀b t',tg b=some t'->¬t'=t->w1.heap[b]? =w.heap[b]? :=fun b t' hb hne=>
 (hg.block b (zAL (hlt b t' hb).2 hW.size) (fun e=>hne (by have:=hu b e.symm;rw[this]at hb;exact(zAH hb).symm))).trans (hW.block b (hlt b t' hb).2)
theorem aGj{t:Tg}{u u':Value}(hu:∀g,u.ownBlock=some g->tg g=some t)(hu':u'.ownBlock=u.ownBlock\/∃g,u'.ownBlock=some g/\tg g=none):
 ∃tg',TExt tg tg'/\(∀g,u'.ownBlock=some g->tg' g=some t)/\(∀b,tg' b≠tg b->u'.ownBlock=some b/\tg b=none/\tg' b=some t):=by
 rcases hu' with h |⟨g,hg,hn⟩
 ·exact⟨tg,TExt.refl tg,fun g hg=>hu g (by rw[<-h];exact hg),fun b hb=>absurd rfl hb⟩
 ·refine⟨tput tg g t,aMh hn t,fun g' hg'=>?_,fun b hb=>?_⟩
  ·rw[hg]at hg';obtain rfl:=zAH hg';exact aLc _ _ _
  ·by_cases e:b=g
   ·subst e;exact⟨hg,hn,aLc _ _ _⟩
   ·exact absurd (aOn e t) hb
end
theorem retI{a b:Int}(h:a=b):Ending.returned (.int .i64 a)= .returned (.int .i64 b):=by rw[h]
theorem aHn(l:Int)(h1: -4000<=l)(h2:l<=4000)(w:World):Calls prog 135 #[.int .i64 l] w fun e w'=>e= .returned (.int .i64 ((l.natAbs:Nat):Int))/\w=w':=by
 rcases(show l<0\/0<=l by omega)with h | h
 ·have hn:¬(-l<l):=by omega
  have hn2:l< -l:=by omega
  go_enter func135,ntmps135
  go_wp2;go_ret;exact⟨retI (by omega),rfl⟩
 ·have hn:¬(l< -l):=by omega
  go_enter func135,ntmps135
  go_wp2;go_ret;exact⟨retI (by omega),rfl⟩
theorem aNo(l:Int)(h1: -4000<=l)(h2:l<=4000)(w:World):Calls prog 136 #[.int .i64 l] w fun e w'=>e= .returned (.int .i64 ((S.pl l:Nat):Int))/\w=w':=by
 by_cases h:0<l
 ·have e:((S.pl l:Nat):Int)=2*l:=by unfold S.pl;rw[if_pos h];omega
  have E:=kH e;clear e
  go_enter func136,ntmps136
  go_wp2;go_ret;exact⟨retI E.out.symm,rfl⟩
 ·have e:((S.pl l:Nat):Int)= -2*l+1:=by unfold S.pl;rw[if_neg h];omega
  have E:=kH e;clear e
  go_enter func136,ntmps136
  go_wp2;go_ret;exact⟨retI (by rw[E.out]),rfl⟩
section
variable {w : World} {B0 Sb n : Nat} {tg : TgF} {v : Sv} {s : S.Sol}
theorem SAt.c3(h:SAt w B0 Sb tg n v s):w.cell? ⟨Sb,3,none⟩=some (.slice (some ⟨v.va,0,none⟩) (n+1) (n+1)):=h.st.cell rfl
theorem SAt.c4(h:SAt w B0 Sb tg n v s):w.cell? ⟨Sb,4,none⟩=some (.slice (some ⟨v.le,0,none⟩) (n+1) (n+1)):=h.st.cell rfl
theorem SAt.c5(h:SAt w B0 Sb tg n v s):w.cell? ⟨Sb,5,none⟩=some (.slice (some ⟨v.re,0,none⟩) (n+1) (n+1)):=h.st.cell rfl
theorem SAt.c11(h:SAt w B0 Sb tg n v s):w.cell? ⟨Sb,11,none⟩=some (.slice (some ⟨v.ph,0,none⟩) (n+1) (n+1)):=h.st.cell rfl
theorem SAt.c9(h:SAt w B0 Sb tg n v s):w.cell? ⟨Sb,9,none⟩=some (.slice (some ⟨v.we,0,none⟩) (n+1) (n+1)):=h.st.cell rfl
theorem SAt.c2(h:SAt w B0 Sb tg n v s):w.cell? ⟨Sb,2,none⟩=some (.slice (some ⟨v.wa,0,none⟩) (2*n+2) (2*n+2)):=h.st.cell rfl
theorem SAt.c0(h:SAt w B0 Sb tg n v s):w.cell? ⟨Sb,0,none⟩=some v.cl:=h.st.cell rfl
theorem SAt.c1(h:SAt w B0 Sb tg n v s):w.cell? ⟨Sb,1,none⟩=some v.lr:=h.st.cell rfl
theorem SAt.c6(h:SAt w B0 Sb tg n v s):w.cell? ⟨Sb,6,none⟩=some v.tr:=h.st.cell rfl
theorem SAt.c7(h:SAt w B0 Sb tg n v s):w.cell? ⟨Sb,7,none⟩=some v.li:=h.st.cell rfl
theorem SAt.c8(h:SAt w B0 Sb tg n v s):w.cell? ⟨Sb,8,none⟩=some (.int .i64 (s.nxt:Int)):=h.st.cell rfl
theorem SAt.c10(h:SAt w B0 Sb tg n v s):w.cell? ⟨Sb,10,none⟩=some v.ri:=h.st.cell rfl
theorem SAt.cval(h:SAt w B0 Sb tg n v s){i:Nat}(hi:i<=n):w.cell? ⟨v.va,i,none⟩=some (.int .i64 (s.val.getD i 0)):=h.va.cell (aBx (by have:=h.nv;omega))
theorem SAt.clvl(h:SAt w B0 Sb tg n v s){i:Nat}(hi:i<=n):w.cell? ⟨v.le,i,none⟩=some (.int .i64 ((s.lvl.getD i 0:Nat):Int)):=h.le.cell (aY0 (by have:=h.nl;omega))
theorem SAt.crsn(h:SAt w B0 Sb tg n v s){i:Nat}(hi:i<=n):w.cell? ⟨v.re,i,none⟩=some (.int .i64 (s.rsn.getD i 0)):=h.re.cell (aBx (by have:=h.nr;omega))
theorem SAt.cphs(h:SAt w B0 Sb tg n v s){i:Nat}(hi:i<=n):w.cell? ⟨v.ph,i,none⟩=some (.int .i64 (s.phs.getD i 0)):=h.ph.cell (aBx (by have:=h.np;omega))
theorem aLe(h:SAt w B0 Sb tg n v s)(hn:n<=4000){l:Int}(hl:S.isLit n l=true)(hsm:∀k,s.val.getD k 0= -1\/s.val.getD k 0=0\/s.val.getD k 0=1):
 Calls prog 96 #[.pointer (some ⟨Sb,0,none⟩), .int .i64 l] w fun e w'=>e= .returned (.int .i64 (S.val s.val l))/\w=w':=by
 have hl':=S.aB1.1 hl;obtain⟨h1,h2,h3⟩:=hl';have k3:=h.c3
 by_cases hp:0<l
 ·have e:S.val s.val l=s.val.getD l.toNat 0:=by unfold S.val;rw[if_pos hp]
  have E:=kH e;have kv:=h.cval (i:=l.toNat) (by omega);clear h e hl
  go_enter func96,ntmps96
  go_wp2;go_ret;exact⟨retI E.out.symm,rfl⟩
 ·have e:S.val s.val l= -s.val.getD (-l).toNat 0:=by unfold S.val;rw[if_neg hp]
  have E:=kH e;have kv:=h.cval (i:=(-l).toNat) (by omega);have hs1:=hsm (-l).toNat;have hs2: -1<=s.val.getD (-l).toNat 0/\s.val.getD (-l).toNat 0<=1:=by omega
  obtain⟨x,hx⟩:∃x,s.val.getD (-l).toNat 0=x:=⟨_,rfl⟩;rw[hx]at kv hs2 E;obtain⟨hs3,hs4⟩:=hs2;clear h e hl hs1 hsm hx
  go_enter func96,ntmps96
  go_wp2;go_ret;exact⟨retI E.out.symm,rfl⟩
end
section
variable {P : Program} (w : World)
theorem aNp(t ty e:TypeId)(i:TypeInfo)(z:Value)(bytes:Nat)(ht:P.underlying t=some (.slice e))(hi:P.info? e=some i)(hz:i.zero=some z)
 (hsize:i.size=1) (hby:i.bytes=bytes) (hzs:z.cells.size=1)
 (A:Option Addr) (n:Nat) (xs:List Value) (hown:OwnAt w e 1 (.slice A n n) n xs)
 (a:Addr) (c:Nat) (u:Value) (hu:w.cell? a=some u) (hn:n<=1000000000) (hb:bytes<=64):
 ∃v' w',(Builtin.append_ #[t,t] ty #[.slice A n n, .slice (some a) 1 c]).run P w= .ok v' w'/\OwnAt w' e 1 v' (n+1) (xs ++ [u])/\Below w.heap.size w w'/\v'.ownBlock=some w.heap.size:=by
 have hmul:(n+1)*bytes<=(n+1)*64:=Nat.mul_le_mul_left _ hb;have hl: [u].length=1*i.size:=by rw[hsize];rfl
 have hnews:∀(j:Nat) (x:Value), [u][j]? =some x->w.cell? (a.add j)=some x:=fun j x hx=>by
  have:j=0:=by have:=(zAA.1 hx).1;simp at this;exact this
  subst this;have ha:a.add 0=a:=by cases a;simp[Addr.add]
  rw[ha,hu];simpa using hx
 have h63:n+1<=maxLen:=by simp only[maxLen];omega
 have hbytes:(n+1)*i.bytes<=140737488355328:=by rw[hby];omega
 have hlen:(xs ++ [u]).length=(n+1)*1:=by rw[zAX,hown.1];simp
 have grown:∀(old:Nat),old<n+1->OwnAt (w.drew.alloc (.cells (xs.toArray ++ [u].toArray ++ Builtin.zeroCells z.cells (grownCap w (n+1) old e- (n+1))) e)) e 1
  (.slice (some ⟨w.heap.size,0,none⟩) (n+1) (grownCap w (n+1) old e)) (n+1) (xs ++ [u])/\
  Below w.heap.size w (w.drew.alloc (.cells (xs.toArray ++ [u].toArray ++ Builtin.zeroCells z.cells (grownCap w (n+1) old e- (n+1))) e)):=by
  intro old ho;have hge:=grownCap_ge w (n+1) old e;have hcm:grownCap w (n+1) old e<=maxLen:=grownCap_le_maxLen w (n+1) old e h63;have hx1:=hown.1;refine⟨⟨hlen, .inr ⟨w.heap.size,0,_,_,rfl,heap_alloc_new w.drew _,hge,hcm,?_,?_⟩⟩,⟨rfl,rfl,rfl,by simp,fun k hk=>Below.heap_alloc w.drew _ k hk⟩⟩
  ·simp only[Array.size_append,List.size_toArray,size_zeroCells,hzs,List.length_singleton];omega
  ·intro j x hx;have hj:j<(xs ++ [u]).length:=(zAA.1 hx).1;rw[zBH,zAR (by simpa using hj)];simpa using hx
 rcases hown.2 with⟨hv,h0⟩ |⟨g,off,cap,cur,hv,hg,hnc,hcm,hcs,hcur⟩
 ·subst h0;injection hv with hA _ _
  subst hA;have hx:xs= []:=List.eq_nil_of_length_eq_zero (by simpa using hown.1);subst hx;have hr:=run_append_nil (P:=P) w t ty e i z ht hi hz a 1 c [u] hl hnews (by omega) (by omega) (by omega);have hgr:=grown 0 (by omega);simp only[zBH,List.nil_append,Array.empty_append]at hgr⊢;exact⟨_,_,hr,hgr.1,hgr.2,rfl⟩
 ·injection hv with hA _ hc
  subst hA hc;have hholds:∀(j:Nat) (x:Value),xs[j]? =some x->w.cell? ((⟨g,off,none⟩:Addr).add j)=some x:=by
   intro j x hx;rw[aBl,cell_of_row w g _ cur e (0,0) hg];exact hcur j x hx
  have hr:=run_append_grow (P:=P) w t ty e i z ht hi hz ⟨g,off,none⟩ n n xs (by rw[hown.1,hsize]) hholds a 1 c [u] hl hnews (by omega) (by omega) (growslice_fits (by omega) hbytes);have hgr:=grown n (by omega);exact⟨_,_,hr,hgr.1,hgr.2,rfl⟩
theorem aMi{ops:Array Oper}{o:Oper}{a:Act}{K:Act->World->Prop}{Q:Exit->Act->World->Prop}{E:Prop}(hgd:o.guard=none)(sx x:Operand)(t:TypeId)
 (ho:o.op= .call {callee:= .builtin .append,args:= #[sx,x],argTypes:= #[t,t]})
 (e:TypeId) (z:Value) (bytes:Nat) (ht:P.underlying t=some (.slice e)) (hinfo:(P.info? e).map (fun i=>(i.zero,i.size,i.bytes))=some (some z,1,bytes)) (hzs:z.cells.size=1)
 (A:Option Addr) (n:Nat) (xs:List Value) (hs:a.eval sx= .slice A n n) (hown:OwnAt w e 1 (.slice A n n) n xs)
 (ad:Addr) (c:Nat) (u:Value) (hx:a.eval x= .slice (some ad) 1 c) (hu:w.cell? ad=some u) (hn:n<=1000000000) (hb:bytes<=64)
 (h:∀v' w',OwnAt w' e 1 v' (n+1) (xs ++ [u])->Below w.heap.size w w'->v'.ownBlock=some w.heap.size->K (a.put o.dst v') w'):
 if Region.wanted o (yielded ops a.tmps)=true then Oper.wp P o a w K Q else E:=by
 rw[if_pos (by simp[Region.wanted,hgd])];obtain⟨i,hi,hz,hsz,hby⟩:=info_parts hinfo;obtain⟨v',w',hr,h2,h3,h4⟩:=aNp (P:=P) w t o.type e i z bytes ht hi hz hsz hby hzs A n xs hown ad c u hu hn hb;unfold Oper.wp execOp;simp only[ho,resolve,invoke,builtin,Sem.run_bind,Sem.run_pure,Result.andThen_ok,List.map_toArray,List.map_cons,List.map_nil,hs,hx,hr];exact h v' w' h2 h3 h4
end
theorem bBk{w:World}{e:TypeId}{A:Option Addr}{n c:Nat}{xs:List Value}(h:OwnAt w e 1 (.slice A n c) n xs):OwnAt w e 1 (.slice A n n) n xs:=by
 refine⟨h.1,?_⟩;rcases h.2 with⟨hv,h0⟩ |⟨g,off,cap,cur,hv,hg,hnc,hcm,hcs,hcur⟩
 ·subst h0;injection hv with hA _ _
  subst hA;exact .inl ⟨rfl,rfl⟩
 ·injection hv with hA _ hc
  subst hA hc;exact .inr ⟨g,off,n,cur,rfl,hg,zBJ _,by omega,by omega,hcur⟩
theorem aOo{w:World}{e:TypeId}{A:Option Addr}{n c:Nat}{xs:List Value}(h:OwnAt w e 1 (.slice A n c) n xs):n<=c/\c<=9223372036854775807:=by
 rcases h.2 with⟨hv,h0⟩ |⟨g,off,cap,cur,hv,hg,hnc,hcm,hcs,hcur⟩
 ·injection hv with _ _ hc
  omega
 ·injection hv with hA _ hc
  subst hc;simp only[maxLen]at hcm;omega
theorem aAg{w:World}{e:TypeId}{v:Value}{n:Nat}{xs:List Value}(h:OwnAt w e 1 v n xs){j:Nat}{u:Value}(hj:xs[j]? =some u):
 ∃g off c,v= .slice (some ⟨g,off,none⟩) n c/\w.cell? ⟨g,off+j,none⟩=some u/\(∀i,w.frozen? ⟨g,i,none⟩=false)/\n<=c/\c<=9223372036854775807:=by
 have hlt:=(zAA.1 hj).1;have hl:=h.1;rcases h.2 with⟨hv,h0⟩ |⟨g,off,cap,cur,hv,hg,hnc,hcm,hcs,hcur⟩
 ·omega
 ·refine⟨g,off,cap,hv,?_,fun i=>by simp[World.frozen?,hg],hnc,by simp only[maxLen]at hcm;omega⟩;rw[cell_of_row w g _ cur e (0,0) hg];exact hcur j u hj
section
variable {w : World} {B0 Sb n : Nat} {tg : TgF} {v : Sv} {s : S.Sol}
theorem SAt.clause(h:SAt w B0 Sb tg n v s){k:Nat}{c:List Int}(hk:s.cls[k]? =some c)(hc:0<c.length):
 ∃gc oc cc gu ou cu,v.cl= .slice (some ⟨gc,oc,none⟩) s.cls.length cc/\w.cell? ⟨gc,oc+k,none⟩=some (.slice (some ⟨gu,ou,none⟩) c.length cu)/\(∀(i:Nat) (x:Int),c[i]? =some x->w.cell? ⟨gu,ou+i,none⟩=some (.int .i64 x))/\(∀i,w.frozen? ⟨gu,i,none⟩=false)/\tg gu=some (.cl k)/\c.length<=cu/\cu<=9223372036854775807:=by
 obtain⟨us,c1,c2,c3⟩:=h.cl;obtain⟨u,hu,ho,ht⟩:=c3 k (siv c) (by rw[zAW,hk];rfl);rw[aBu]at ho;obtain⟨gc,oc,cc,e1,e2,_,_,_⟩:=aAg c1.1 hu;obtain⟨x,hx⟩:∃x,c[0]? =some x:=⟨_,zAB hc⟩;have hsv:∀(i:Nat) (x:Int),c[i]? =some x->(siv c)[i]? =some (Value.int .i64 x):=fun i x hx=>by unfold siv;rw[zAW,hx];rfl
 obtain⟨gu,ou,cu,f1,f2,f3,f4,f5⟩:=aAg ho (hsv 0 x hx);subst f1;refine⟨gc,oc,cc,gu,ou,cu,e1,e2,fun i y hy=>?_,f3,ht gu (by simp[Value.ownBlock]),f4,f5⟩;obtain⟨g',o',c',q1,q2,_⟩:=aAg ho (hsv i y hy);injection q1 with q3 _ _
 injection q3 with q3
 injection q3 with a1 a2 _
 subst a1 a2;exact q2
theorem SAt.watch(h:SAt w B0 Sb tg n v s){p:Nat}{l:List Nat}(hp:s.wat[p]? =some l):∃A c,w.cell? ⟨v.wa,p,none⟩=some (.slice A l.length c)/\OwnAt w 3 1 (.slice A l.length c) l.length (snv l)/\∀g,(Value.slice A l.length c).ownBlock=some g->tg g=some .wl:=by
 obtain⟨us,u1,u2,u3⟩:=h.wa;obtain⟨u,hu,ho,ht⟩:=u3 p (snv l) (by rw[zAW,hp];rfl);rw[aVl]at ho;obtain⟨A,c,rfl⟩:=ho.form;exact⟨A,c,u1.cell hu,ho,ht⟩
theorem SAt.putWat(h:SAt w B0 Sb tg n v s){p:Nat}{l:List Nat}{u:Value}(ho:OwnAt w 3 1 u l.length (snv l))(hn:∀g,u.ownBlock=some g->B0<=g/\(tg g=none\/tg g=some .wl))(tg':TgF)(hx:TExt tg tg')(hu:∀g,u.ownBlock=some g->tg' g=some .wl)(hd:∀b,tg' b≠tg b->u.ownBlock=some b/\tg' b=some .wl):
 SAt (w.setCell ⟨v.wa,p,none⟩ u) B0 Sb tg' n v {s with wat:=s.wat.set p l}:=by
 obtain⟨us,u1,u2,u3⟩:=h.wa;have hoth:=h.other u1.2 p u;have k:=h.keep hx (fun t=>t= .wat) hoth;refine⟨k.st (by simp),k.va (by simp),k.le (by simp),k.re (by simp),k.ph (by simp),k.we (by simp),h.ri,k.tr (by simp),k.li (by simp),⟨us.set p u,?_,?_⟩,k.cl (by simp) (by simp),k.lr (by simp) (by simp),fun b t hb=>?_,h.nv,h.nl,h.nr,h.np,by simpa using h.nw⟩
 ·exact⟨(u1.set p u).1,hx _ _ u1.2⟩
 ·refine⟨by simpa using u2,fun q c hc=>?_⟩;have hc':((s.wat.set p l).map snv)[q]? =some c:=hc;rw[zAW,List.getElem?_set]at hc'
  by_cases e:p=q
  ·subst e;rw[if_pos rfl]at hc';split at hc'
   ·rename_i hlt;obtain rfl:=zAH hc';refine⟨u,by rw[List.getElem?_set,if_pos rfl,if_pos (by rw[u2];simpa using hlt)],?_,hu⟩;rw[aVl];exact ho.setCell (p:=⟨v.wa,p,none⟩) (fun e=>by
     have:=(hn _ e).2;rw[u1.2]at this;rcases this with h | h <;> cases h) u
   ·cases hc'
  ·rw[if_neg e]at hc';obtain⟨u',hu',ho',ht'⟩:=u3 q c (by rw[zAW];exact hc');refine⟨u',by rw[List.getElem?_set,if_neg e];exact hu',ho'.same (fun g hg=>hoth g _ (ht' g hg) (by simp)),fun g hg=>hx _ _ (ht' g hg)⟩
 ·rw[aAf]
  by_cases e:tg' b=tg b
  ·exact h.lt b t (by rw[<-e];exact hb)
  ·obtain⟨e1,e2⟩:=hd b e;exact⟨(hn b e1).1,ho.lt b e1⟩
end
theorem aDp{P:Program}(w:World)(op:BinOp)(ho:op= .add\/op= .mul)(t:TypeId)(x y:Nat):∃r W',(binOp op t (.float .f64 x) (.float .f64 y)).run P w= .ok (.float .f64 r) W'/\Dr w W':=by
 cases h:floatBits op .f64 x y with
 | some r=>exact⟨r,w,run_float_arith w op t .f64 x y r h,Dr.refl w⟩
 | none=>
  unfold floatBits at h;rcases ho with rfl | rfl
  ·simp only at h;simp[binOp,Op.floatArith,h];split
   ·exact⟨_,_,rfl,Dr.refl w⟩
   ·exact⟨_,_,rfl,(Dr.refl w).drew⟩
  ·simp only at h;simp[binOp,Op.floatArith,h];split
   ·exact⟨_,_,rfl,Dr.refl w⟩
   ·exact⟨_,_,rfl,(Dr.refl w).drew⟩
structure Uw(tg:TgF)(w w':World):Prop where
 size:w.heap.size<=w'.heap.size
 keep:∀b,b<w.heap.size->tg b≠some .wgt->tg b≠some .st->w'.heap[b]? =w.heap[b]?
theorem Uw.trans{tg:TgF}{a b c:World}(h:Uw tg a b)(k:Uw tg b c):Uw tg a c:=⟨zBK h.size k.size,fun x hx h1 h2=>(k.keep x (zAL hx h.size) h1 h2).trans (h.keep x hx h1 h2)⟩
theorem Uw.dr(tg:TgF){w w':World}(h:Dr w w'):Uw tg w w':=⟨(h.below 0).size,fun b hb _ _=>(h.below w.heap.size).block b hb⟩
theorem Uw.set{tg:TgF}{w:World}{b:Nat}{t:Tg}(hb:tg b=some t)(ht:t= .wgt\/t= .st)(i:Nat)(u:Value):Uw tg w (w.setCell ⟨b,i,none⟩ u):=
 ⟨zAM (aAf _ _ _).symm,fun x _ h1 h2=>Below.heap_setCell w ⟨b,i,none⟩ u x fun e=>by subst e;rcases ht with rfl | rfl;exact h1 hb;exact h2 hb⟩
def bBl(w:World)(B0 Sb n:Nat)(tg:TgF)(v:Sv)(s:S.Sol)(e:Ending)(w':World):Prop:=
 e= .returned (.tuple #[])/\∃ri',SAt w' B0 Sb tg n {v with ri:=ri'} s/\Uw tg w w'/\Below B0 w w'
section
variable {w : World} {B0 Sb n : Nat} {tg : TgF} {v : Sv} {s : S.Sol}
theorem SAt.cwgt(h:SAt w B0 Sb tg n v s){k:Nat}(hk:k<=n):∃x,w.cell? ⟨v.we,k,none⟩=some (.float .f64 x):=by
 obtain⟨fs,f1,f2,f3⟩:=h.we;obtain⟨x,hx⟩:=f3 _ (zBM (show k<fs.length by omega));exact⟨x,f1.cell (by rw[zAB (by omega),hx])⟩
theorem SAt.fwgt(h:SAt w B0 Sb tg n v s)(k:Nat):w.frozen? ⟨v.we,k,none⟩=false:=by
 obtain⟨fs,f1,f2,f3⟩:=h.we;exact f1.frz k
theorem SAt.twgt(h:SAt w B0 Sb tg n v s):tg v.we=some .wgt:=by
 obtain⟨fs,f1,f2,f3⟩:=h.we;exact f1.2
theorem aY1(h:SAt w B0 Sb tg n v s)(hn:n<=4000){k:Nat}(hk:k<=n):
 Calls prog 138 #[.pointer (some ⟨Sb,0,none⟩), .int .i64 (k:Int)] w (bBl w B0 Sb n tg v s):=by
 obtain⟨x,hx⟩:=h.cwgt hk;have c9:=h.c9;obtain⟨y,hy⟩:=h.ri;have c10:w.cell? ⟨Sb,10,none⟩=some (.float .f64 y):=by rw[h.c10,hy]
 have f9:=h.fwgt k;have hkI:(k:Int) <(n:Int)+1:=by omega
 have HS:=kH h;clear h hy
 go_enter func138,ntmps138
 obtain⟨r,W1,hadd,hdr⟩:=aDp (P:=prog) w.drew .add (.inl rfl) 102 x y;have Hdr:=kH ((Dr.refl w).drew.trans hdr);have HS1:=kH (HS.out.dr Hdr.out);have f9':=HS1.out.fwgt k;obtain⟨x',hx'⟩:=HS1.out.cwgt hk;clear hdr;have hst:=fun(a:Addr) (b:Nat) (m:Mode) (W:World)=>run_store prog W a (.float .f64 b) m rfl
 go_wp2
 go_region
 clear c9 c10 f9 hx hadd;have HS2:=kH (HS1.out.setWgt k (.float .f64 r) ⟨r,rfl⟩);have Hu2:=kH (show Uw tg w (W1.setCell ⟨v.we,k,none⟩ (.float .f64 r))/\Below B0 w (W1.setCell ⟨v.we,k,none⟩ (.float .f64 r))from
  ⟨(Uw.dr tg Hdr.out).trans (Uw.set HS1.out.twgt (by simp) _ _),(Hdr.out.below B0).setCell (p:=⟨v.we,k,none⟩) (HS1.out.lt _ _ HS1.out.twgt).1 _⟩)
 obtain⟨X,hX⟩:∃X,X=W1.setCell ⟨v.we,k,none⟩ (.float .f64 r):=⟨_,rfl⟩;rw[<-hX]at HS2 Hu2⊢;clear hX HS1 Hdr f9' hx' HS;have c9:=HS2.out.c9;obtain⟨z,hz⟩:=HS2.out.cwgt hk;cases hb:(FloatKind.f64.format.order z 6103021453049119613 == some .gt)
 ·go_wp2;refine bodyPost_end (results_none rfl _ _ _) rfl ?_;exact⟨rfl,v.ri,HS2.out,Hu2.out.1,Hu2.out.2⟩
 ·go_wp2;clear hb hz
  go_loopg [31] (n+2) (fun g i wr=>∃j:Nat,j<=n+1/\i= .int .i64 (j:Int)/\g+j=n+2/\Hid (SAt wr B0 Sb tg n v s)/\Hid (Uw tg w wr/\Below B0 w wr))
  case atStart=>exact⟨0,zBL _,rfl,rfl,HS2,Hu2⟩
  case round=>
   obtain⟨j,hj,rfl,hgk,H3,H4⟩:=hrel;have Hgk:=kH hgk;clear hgk HS2 Hu2 c9;have c9:=H3.out.c9
   by_cases hjn:j<n+1
   ·obtain⟨x,hx⟩:=H3.out.cwgt (show j<=n by omega);obtain⟨r,W1,hmul,hdr⟩:=aDp (P:=prog) wr .mul (.inr rfl) 102 x 3110860544497550640;have HS1:=kH (H3.out.dr hdr);have Hdr:=kH hdr;have f9:=HS1.out.fwgt j;obtain⟨x',hx'⟩:=HS1.out.cwgt (show j<=n by omega);have d9:=HS1.out.c9;clear hdr;go_wp2;clear hx hmul f9 hx' d9 c9
    go_roundg (gk-1)
    case measure=>have:=Hgk.out;omega
    case rel=>
     have:=Hgk.out;refine⟨j+1,by omega,by go_num,by omega,kH (HS1.out.setWgt j (.float .f64 r) ⟨r,rfl⟩),kH ⟨(H4.out.1.trans (Uw.dr tg Hdr.out)).trans (Uw.set HS1.out.twgt (by simp) _ _),(H4.out.2.trans (Hdr.out.below B0)).setCell (p:=⟨v.we,j,none⟩) (HS1.out.lt _ _ HS1.out.twgt).1 _⟩⟩
   ·obtain⟨y,hy⟩:=H3.out.ri;have c10:wr.cell? ⟨Sb,10,none⟩=some (.float .f64 y):=by rw[H3.out.c10,hy]
    obtain⟨r,W1,hmul,hdr⟩:=aDp (P:=prog) wr .mul (.inr rfl) 102 y 3110860544497550640;have HS1:=kH (H3.out.dr hdr);have Hdr:=kH hdr;have f10:=HS1.out.st.frz 10;have d10:=HS1.out.c10;have Hy:=kH hy;clear hdr hy;go_wp2;refine bodyPost_end (results_none rfl _ _ _) rfl ?_;exact⟨rfl, .float .f64 r,HS1.out.setRi (.float .f64 r) ⟨r,rfl⟩,(H4.out.1.trans (Uw.dr tg Hdr.out)).trans (Uw.set HS1.out.st.2 (by simp) _ _),(H4.out.2.trans (Hdr.out.below B0)).setCell (p:=⟨Sb,10,none⟩) (HS1.out.lt _ _ HS1.out.st.2).1 _⟩
end
theorem aMj{w:World}{e:TypeId}{A:Option Addr}{n c k:Nat}{xs:List Value}(h:OwnAt w e 1 (.slice A n c) n xs)(hk:k<=n):OwnAt w e 1 (.slice A k c) k (xs.take k):=by
 have hl:=h.1;refine⟨by rw[zAZ];omega,?_⟩;rcases h.2 with⟨hv,h0⟩ |⟨g,off,cap,cur,hv,hg,hnc,hcm,hcs,hcur⟩
 ·injection hv with hA _ hc
  subst hA hc;have:k=0:=by omega
  subst this;exact .inl ⟨rfl,rfl⟩
 ·injection hv with hA _ hc
  subst hA hc;refine .inr ⟨g,off,c,cur,rfl,hg,by omega,hcm,hcs,fun j u hj=>?_⟩;rw[zBB]at hj;split at hj
  ·exact hcur j u hj
  ·cases hj
theorem SAt.ctrl{w:World}{B0 Sb n:Nat}{tg:TgF}{v:Sv}{s:S.Sol}(h:SAt w B0 Sb tg n v s){g o m c:Nat}(e:v.tr= .slice (some ⟨g,o,none⟩) m c){i:Nat}{l:Int}(hl:s.trl[i]? =some l):w.cell? ⟨g,o+i,none⟩=some (.int .i64 l):=by
 obtain⟨g',o',c',q1,q2,_⟩:=aAg h.tr.1 (j:=i) (u:= .int .i64 l) (by unfold siv;rw[zAW,hl];rfl);rw[e]at q1;injection q1 with q3 _ _
 injection q3 with q3
 injection q3 with a1 a2 _
 subst a1 a2;exact q2
structure Kt(tg:TgF)(w w':World):Prop where
 size:w.heap.size<=w'.heap.size
 keep:∀b,b<w.heap.size->tg b=none->w'.heap[b]? =w.heap[b]?
theorem Kt.refl(tg:TgF)(w:World):Kt tg w w:=⟨zBJ _,fun _ _ _=>rfl⟩
theorem Kt.trans{tg:TgF}{a b c:World}(h:Kt tg a b)(k:Kt tg b c):Kt tg a c:=⟨zBK h.size k.size,fun x hx h1=>(k.keep x (zAL hx h.size) h1).trans (h.keep x hx h1)⟩
theorem Kt.dr(tg:TgF){w w':World}(h:Dr w w'):Kt tg w w':=⟨(h.below 0).size,fun b hb _=>(h.below w.heap.size).block b hb⟩
theorem Kt.set{tg:TgF}{b:Nat}{t:Tg}(w:World)(hb:tg b=some t)(i:Nat)(u:Value):Kt tg w (w.setCell ⟨b,i,none⟩ u):=
 ⟨zAM (aAf _ _ _).symm,fun x _ h1=>Below.heap_setCell w ⟨b,i,none⟩ u x fun e=>by subst e;rw[hb]at h1;cases h1⟩
def aSa(w:World)(B0 Sb n:Nat)(tg:TgF)(s:S.Sol)(L at_:Nat)(e:Ending)(w':World):Prop:=
 e= .returned (.tuple #[])/\∃v' rsn' phs',SAt w' B0 Sb tg n v' (s.back L at_ rsn' phs')/\(Below B0 w w'/\Kt tg w w')/\rsn'.length=n+1/\(∀v,v∉(s.trl.drop at_).map Int.natAbs->rsn'.getD v 0=s.rsn.getD v 0)/\phs'.length=n+1/\∀v,v<=n->phs'.getD v 0=1\/phs'.getD v 0= -1
structure SBk(w0:World)(B0 Sb n:Nat)(tg:TgF)(v:Sv)(s:S.Sol)(at_ j:Nat)(w:World)(rsn' phs':List Int):Prop where
 sat:SAt w B0 Sb tg n v {s with val:=S.unset s.val ((s.trl.drop at_).take j),rsn:=rsn',phs:=phs'}
 r2:∀v,v∉((s.trl.drop at_).take j).map Int.natAbs->rsn'.getD v 0=s.rsn.getD v 0
 p2:∀v,v<=n->phs'.getD v 0=1\/phs'.getD v 0= -1
 bl:Below B0 w0 w
 un:Kt tg w0 w
section
variable {w w0 : World} {B0 Sb n : Nat} {tg : TgF} {v : Sv} {s : S.Sol}
theorem SBk.step{at_ j:Nat}{rsn' phs':List Int}{l:Int}(h:SBk w0 B0 Sb n tg v s at_ j w rsn' phs')(ht:S.Trl n s.val s.lvl s.trl s.lim)(hl:s.trl[at_+j]? =some l):
 l.natAbs<=n/\(S.unset s.val ((s.trl.drop at_).take j)).getD l.natAbs 0=s.val.getD l.natAbs 0/\(s.val.getD l.natAbs 0=1\/s.val.getD l.natAbs 0= -1)/\
 SBk w0 B0 Sb n tg v s at_ (j+1) (((w.setCell ⟨v.ph,l.natAbs,none⟩ (.int .i64 (s.val.getD l.natAbs 0))).setCell ⟨v.va,l.natAbs,none⟩ (.int .i64 0)).setCell ⟨v.re,l.natAbs,none⟩ (.int .i64 (-1))) (rsn'.set l.natAbs (-1)) (phs'.set l.natAbs (s.val.getD l.natAbs 0)):=by
 have hlit:=ht.lits l (zAC hl);have habs:=S.aBh hlit;have hd:(s.trl.drop at_)[j]? =some l:=by rw[List.getElem?_drop];exact hl
 have htk:(s.trl.drop at_).take (j+1)=(s.trl.drop at_).take j ++ [l]:=by rw[List.take_add_one,hd];rfl
 have hnot:l.natAbs∉((s.trl.drop at_).take j).map Int.natAbs:=by
  intro hin;obtain⟨u,hu,hue⟩:=zBU.1 hin;obtain⟨i,hi,ei⟩:=S.aA3.1 hu;rw[List.getElem?_drop]at ei;have:=ht.inj ei hl hue;omega
 have hval:s.val.getD l.natAbs 0=1\/s.val.getD l.natAbs 0= -1:=by
  have h1:=(ht.vals l hlit).2 (zAC hl);unfold S.val at h1;split at h1
  ·rw[show l.toNat=l.natAbs from by omega]at h1;exact .inl h1
  ·rw[show(-l).toNat=l.natAbs from by omega]at h1;exact .inr (by omega)
 refine⟨habs.2,by rw[S.aIs,if_neg hnot],hval,?_⟩;have h1:=h.sat.setPhs l.natAbs (s.val.getD l.natAbs 0);have h2:=h1.setVal l.natAbs 0;have h3:=h2.setRsn l.natAbs (-1);refine⟨?_,fun x hx=>?_,fun x hx=>?_,?_,((h.un.trans (Kt.set _ h.sat.ph.2 _ _)).trans (Kt.set _ h1.va.2 _ _)).trans (Kt.set _ h2.re.2 _ _)⟩
 ·rw[htk,S.aWo];exact h3
 ·rw[htk,zBS,zBE]at hx;rw[S.aC3,if_neg (fun e=>hx (.inr (by simp[e.1])))];exact h.r2 x fun e=>hx (.inl e)
 ·rw[S.aC3];split
  ·exact hval
  ·exact h.p2 x hx
 ·exact((h.bl.setCell (p:=⟨v.ph,l.natAbs,none⟩) (h.sat.lt _ _ h.sat.ph.2).1 _).setCell (p:=⟨v.va,l.natAbs,none⟩) (h1.lt _ _ h1.va.2).1 _).setCell (p:=⟨v.re,l.natAbs,none⟩) (h2.lt _ _ h2.re.2).1 _
theorem SBk.dr{w':World}{at_ j:Nat}{rsn' phs':List Int}(h:SBk w0 B0 Sb n tg v s at_ j w rsn' phs')(hd:Dr w w'):SBk w0 B0 Sb n tg v s at_ j w' rsn' phs':=⟨h.sat.dr hd,h.r2,h.p2,h.bl.dr hd,h.un.trans (Kt.dr tg hd)⟩
theorem SAt.cutTr(h:SAt w B0 Sb tg n v s){A:Option Addr}{c k:Nat}(e:v.tr= .slice A s.trl.length c)(hk:k<=s.trl.length):SAt (w.setCell ⟨Sb,6,none⟩ (.slice A k c)) B0 Sb tg n {v with tr:= .slice A k c} {s with trl:=s.trl.take k}:=by
 have q:=h.keep (TExt.refl tg) (fun t=>t= .st) (h.other h.st.2 6 (.slice A k c));have hlen:(s.trl.take k).length=k:=by rw[zAZ];omega
 refine h.setSt 6 _ (v':={v with tr:= .slice A k c}) (s':={s with trl:=s.trl.take k}) rfl ⟨fun hn=>absurd rfl hn,q.va,q.le,q.re,q.ph,q.we,fun hn=>?_,q.li,q.wa,q.cl,q.lr⟩ h.ri h.nv h.nl h.nr h.np h.nw;have ht:=q.tr hn;rw[e]at ht;refine⟨?_,fun g hg=>ht.2 g (by cases A with
  | none=>cases hg
  | some a=>exact hg)⟩
 show OwnAt _ _ 1 _ (s.trl.take k).length (siv (s.trl.take k))
 rw[hlen];have h3:=aMj (k:=k) ht.1 hk;unfold siv at h3⊢;rw[List.map_take];exact h3
theorem SAt.cutLi(h:SAt w B0 Sb tg n v s){A:Option Addr}{c k:Nat}(e:v.li= .slice A s.lim.length c)(hk:k<=s.lim.length):SAt (w.setCell ⟨Sb,7,none⟩ (.slice A k c)) B0 Sb tg n {v with li:= .slice A k c} {s with lim:=s.lim.take k}:=by
 have q:=h.keep (TExt.refl tg) (fun t=>t= .st) (h.other h.st.2 7 (.slice A k c));have hlen:(s.lim.take k).length=k:=by rw[zAZ];omega
 refine h.setSt 7 _ (v':={v with li:= .slice A k c}) (s':={s with lim:=s.lim.take k}) rfl ⟨fun hn=>absurd rfl hn,q.va,q.le,q.re,q.ph,q.we,q.tr,fun hn=>?_,q.wa,q.cl,q.lr⟩ h.ri h.nv h.nl h.nr h.np h.nw;have ht:=q.li hn;rw[e]at ht;refine⟨?_,fun g hg=>ht.2 g (by cases A with
  | none=>cases hg
  | some a=>exact hg)⟩
 show OwnAt _ _ 1 _ (s.lim.take k).length (snv (s.lim.take k))
 rw[hlen];have h3:=aMj (k:=k) ht.1 hk;unfold snv at h3⊢;rw[List.map_take];exact h3
theorem aWs(h:SAt w B0 Sb tg n v s){L:Nat}(hL:s.lim.length<=L)(hLm:L<=100000):
 Calls prog 100 #[.pointer (some ⟨Sb,0,none⟩), .int .i64 (L:Int)] w fun e w'=>e= .returned (.tuple #[])/\w=w':=by
 obtain⟨A,c,hli⟩:=h.li.1.form;have c7:w.cell? ⟨Sb,7,none⟩=some (.slice A s.lim.length c):=by rw[h.c7,hli]
 have hd:decide ((s.lim.length:Int)<=(L:Int))=true:=by simp;omega
 clear h hli
 go_enter func100,ntmps100
 go_wp2;refine bodyPost_ret (results_none rfl _ _ _) rfl ?_;exact⟨rfl,rfl⟩
theorem aPn(h:SAt w B0 Sb tg n v s)(hn:n<=4000)(ht:S.Trl n s.val s.lvl s.trl s.lim)(hph:∀v,v<=n->s.phs.getD v 0=1\/s.phs.getD v 0= -1){L at_:Nat}(hL:s.lim[L]? =some at_)(hnx:s.nxt<=100000):
 Calls prog 100 #[.pointer (some ⟨Sb,0,none⟩), .int .i64 (L:Int)] w (aSa w B0 Sb n tg s L at_):=by
 have hLl:L<s.lim.length:=(zAA.1 hL).1;have hat:at_<s.trl.length:=ht.limlt _ (zAC hL);have hts:=ht.size;have hls:=ht.limsz;obtain⟨gl,ol,cl,el1,el2,el3,el4,el5⟩:=aAg h.li.1 (j:=L) (by rw[aY0 hLl]);have hLd:s.lim.getD L 0=at_:=by rw[List.getD,hL];rfl
 rw[hLd]at el2;obtain⟨gt,ot,ct,et1,et2,et3,et4,et5⟩:=aAg h.tr.1 (j:=at_) (by rw[aBx hat]);have c7:w.cell? ⟨Sb,7,none⟩=some (.slice (some ⟨gl,ol,none⟩) s.lim.length cl):=by rw[h.c7,el1]
 have c6:w.cell? ⟨Sb,6,none⟩=some (.slice (some ⟨gt,ot,none⟩) s.trl.length ct):=by rw[h.c6,et1]
 have hd:decide (s.lim.length<=L)=false:=by simp;omega
 have H0:=kH (show SBk w B0 Sb n tg v s at_ 0 w s.rsn s.phs from⟨by simpa[S.unset]using h,fun _ _=>rfl,hph,Below.refl _ _,Kt.refl _ _⟩);have Ht:=kH ht;have Hel:=kH el1;have Het:=kH et1;obtain⟨TL,hTL⟩:∃TL,s.trl.length=TL:=⟨_,rfl⟩;rw[hTL]at hat hts hls c6 et4;have HTL:=kH hTL;clear h ht hph el1 et1 et2 hL hLd hTL
 go_enter func100,ntmps100
 go_wp2;obtain⟨M,hM⟩:∃M,TL-at_=M:=⟨_,rfl⟩;rw[hM];have HM:=kH hM;have hMb:M<=4000:=by omega
 clear hM c6 c7
 go_loopg [29] (M+1) (fun g i wr=>∃(j:Nat) (rsn' phs':List Int),j<=M/\i= .int .i64 (j:Int)/\g+j=M+1/\Hid (SBk w B0 Sb n tg v s at_ j wr rsn' phs'))
 case atStart=>exact⟨0,_,_,zBL _,rfl,rfl,H0⟩
 case round=>
  obtain⟨j,rsn',phs',hj,rfl,hgk,H1⟩:=hrel;have Hgk:=kH hgk;clear hgk H0
  by_cases hjm:j<M
  ·obtain⟨l,hl⟩:∃l,s.trl[at_+j]? =some l:=⟨_,zAB (by have:=HM.out;have:=HTL.out;omega)⟩;have hcell:=H1.out.sat.ctrl Het.out (i:=at_+j) hl;rw[<-Nat.add_assoc]at hcell;obtain⟨b1,b2,b3,b4⟩:=H1.out.step Ht.out hl;obtain⟨p1,p2,_⟩:=S.aB1.1 (Ht.out.lits l (zAC hl));have Hab:=kH (aHn l (by omega) (by omega) wr);obtain⟨k,hk⟩:∃k,l.natAbs=k:=⟨_,rfl⟩;obtain⟨x,hx⟩:∃x,s.val.getD l.natAbs 0=x:=⟨_,rfl⟩;rw[hx]at b2 b3 b4;rw[hk]at b1 b2 b4 Hab;have Hstep:=kH b4;have kv:=H1.out.sat.cval (i:=k) b1;have hkv2:(S.unset s.val ((s.trl.drop at_).take j)).getD k 0=x:=b2;rw[show({s with val:=S.unset s.val ((s.trl.drop at_).take j),rsn:=rsn',phs:=phs'}:S.Sol).val.getD k 0=x from hkv2]at kv;have c3:=H1.out.sat.c3;have c11:=H1.out.sat.c11;have f11:=H1.out.sat.ph.frz k;have kp:=H1.out.sat.cphs (i:=k) b1;have HP:=kH (H1.out.sat.setPhs k x);have hkI:(k:Int) <(n:Int)+1:=by omega
   clear hl b2 b3 b4 hk hx hkv2
   go_wp2_with fail
   refine Hab.out.mono ?_;rintro e w' ⟨rfl,rfl⟩;clear hcell
   go_upto_region 6 with(fail)
   go_region
   clear c3 c11 f11 kp kv;obtain⟨X,hX⟩:∃X,X=wr.setCell ⟨v.ph,k,none⟩ (.int .i64 x):=⟨_,rfl⟩;rw[<-hX]at Hstep HP⊢;clear hX H1;have c3:=HP.out.c3;have c5:=HP.out.c5;have f3:=HP.out.va.frz k;have f5:=HP.out.re.frz k;have k3:=HP.out.cval (i:=k) b1;have k5:=HP.out.crsn (i:=k) b1;have HV:=kH (HP.out.setVal k 0);have HR:=kH (HP.out.setRsn k (-1));have d5:=HV.out.c5;have df:=HV.out.re.frz k;have dk:=HV.out.crsn (i:=k) b1;have e3:=HR.out.c3;have ef:=HR.out.va.frz k;have ek:=HR.out.cval (i:=k) b1
   go_upto_region 7 with(fail)
   go_region
   clear c3 c5 f3 f5 k3 k5 d5 df dk e3 ef ek HV HR;obtain⟨Z,hZ⟩:∃Z,Z=(X.setCell ⟨v.va,k,none⟩ (.int .i64 0)).setCell ⟨v.re,k,none⟩ (.int .i64 (-1)):=⟨_,rfl⟩;rw[<-hZ]at Hstep⊢;clear hZ HP;go_wp2
   go_roundg (gk-1)
   case measure=>have:=Hgk.out;omega
   case rel=>
    have:=Hgk.out;exact⟨j+1,_,_,by omega,by go_num,by omega,kH (Hstep.out.dr ((Dr.refl _).drew.drew))⟩
  ·obtain rfl:j=M:=by omega
   have c6:wr.cell? ⟨Sb,6,none⟩=some (.slice (some ⟨gt,ot,none⟩) TL ct):=by rw[H1.out.sat.c6,Het.out,HTL.out]
   have c7:wr.cell? ⟨Sb,7,none⟩=some (.slice (some ⟨gl,ol,none⟩) s.lim.length cl):=by rw[H1.out.sat.c7,Hel.out]
   have f6:=H1.out.sat.st.frz 6;have f7:=H1.out.sat.st.frz 7
   go_upto_region 9 with(fail)
   go_region
   clear c6 c7 f6 f7;have HC1:=kH (show SAt (wr.setCell ⟨Sb,6,none⟩ (.slice (some ⟨gt,ot,none⟩) at_ ct)) B0 Sb tg n {v with tr:= .slice (some ⟨gt,ot,none⟩) at_ ct} {s with val:=S.unset s.val ((s.trl.drop at_).take j),rsn:=rsn',phs:=phs',trl:=s.trl.take at_}from H1.out.sat.cutTr (k:=at_) (by show v.tr=_;rw[Het.out]) (by show at_<=s.trl.length;have:=HTL.out;omega));have HC2:=kH (show SAt ((wr.setCell ⟨Sb,6,none⟩ (.slice (some ⟨gt,ot,none⟩) at_ ct)).setCell ⟨Sb,7,none⟩ (.slice (some ⟨gl,ol,none⟩) L cl)) B0 Sb tg n {v with tr:= .slice (some ⟨gt,ot,none⟩) at_ ct,li:= .slice (some ⟨gl,ol,none⟩) L cl} {s with val:=S.unset s.val ((s.trl.drop at_).take j),rsn:=rsn',phs:=phs',trl:=s.trl.take at_,lim:=s.lim.take L}from HC1.out.cutLi (k:=L) (by show v.li=_;rw[Hel.out]) (by show L<=s.lim.length;omega));have HK:=kH (show Kt tg w ((wr.setCell ⟨Sb,6,none⟩ (.slice (some ⟨gt,ot,none⟩) at_ ct)).setCell ⟨Sb,7,none⟩ (.slice (some ⟨gl,ol,none⟩) L cl))from(H1.out.un.trans (Kt.set _ H1.out.sat.st.2 _ _)).trans (Kt.set _ H1.out.sat.st.2 _ _));have HB:=kH (show Below B0 w ((wr.setCell ⟨Sb,6,none⟩ (.slice (some ⟨gt,ot,none⟩) at_ ct)).setCell ⟨Sb,7,none⟩ (.slice (some ⟨gl,ol,none⟩) L cl))from(H1.out.bl.setCell (p:=⟨Sb,6,none⟩) (H1.out.sat.lt _ _ H1.out.sat.st.2).1 _).setCell (p:=⟨Sb,7,none⟩) (H1.out.sat.lt _ _ H1.out.sat.st.2).1 _);obtain⟨Z,hZ⟩:∃Z,Z=(wr.setCell ⟨Sb,6,none⟩ (.slice (some ⟨gt,ot,none⟩) at_ ct)).setCell ⟨Sb,7,none⟩ (.slice (some ⟨gl,ol,none⟩) L cl):=⟨_,rfl⟩;rw[<-hZ]at HC2 HB HK⊢;clear hZ HC1;have HC3:=kH (HC2.out.dr ((Dr.refl Z).drew));have HB3:=kH (HB.out.dr ((Dr.refl Z).drew));have HK3:=kH (HK.out.trans (Kt.dr tg ((Dr.refl Z).drew)));obtain⟨Y,hY⟩:∃Y,Y=Z.drew:=⟨_,rfl⟩;rw[<-hY]at HC3 HB3 HK3⊢;clear hY HC2 HB HK;have c8:Y.cell? ⟨Sb,8,none⟩=some (.int .i64 (s.nxt:Int)):=HC3.out.c8;have f8:=HC3.out.st.frz 8;have hfin:∀W',W'=Y.setCell ⟨Sb,8,none⟩ (.int .i64 ((min s.nxt at_:Nat):Int))->aSa w B0 Sb n tg s L at_ (.returned (.tuple #[])) W':=by
    rintro W' rfl;have hlen:s.trl.drop at_=(s.trl.drop at_).take j:=by rw[zAK (by rw[List.length_drop];have:=HM.out;have:=HTL.out;omega)]
    have hq:=HC3.out.setNxt (min s.nxt at_);refine⟨rfl,{v with tr:= .slice (some ⟨gt,ot,none⟩) at_ ct,li:= .slice (some ⟨gl,ol,none⟩) L cl},rsn',phs',?_,⟨HB3.out.setCell (p:=⟨Sb,8,none⟩) (HC3.out.lt _ _ HC3.out.st.2).1 _,HK3.out.trans (Kt.set _ HC3.out.st.2 _ _)⟩,H1.out.sat.nr,?_,H1.out.sat.np,H1.out.p2⟩
    ·unfold S.Sol.back;rw[hlen];exact hq
    ·rw[hlen];exact H1.out.r2
   have Hfin:=kH hfin;clear hfin
   by_cases hlt:(at_:Int) <(s.nxt:Int)
   ·have hlt2:¬(s.nxt:Int)<=(at_:Int):=by omega
    have hlt3:¬(s.nxt:Int) <(at_:Int):=by omega
    have e1:min s.nxt at_=at_:=by omega
    have E1:=kH e1;clear e1;go_wp2;refine bodyPost_end (results_none rfl _ _ _) rfl ?_;exact Hfin.out _ (by rw[E1.out])
   ·have hlt3:(s.nxt:Int)<=(at_:Int):=by omega
    have e1:min s.nxt at_=s.nxt:=by omega
    have E1:=kH e1;clear e1;go_wp2;refine bodyPost_end (results_none rfl _ _ _) rfl ?_;exact Hfin.out _ (by rw[E1.out])
end
namespace S
theorem Wat.small{n:Nat}{cls:List (List Int)}{wat:List (List Nat)}(h:Wat n cls wat){l:Int}(hl:isLit n l=true):(wat.getD (pl l) []).length<=cls.length:=by
 have h1:wat.getD (pl l) []⊆List.range cls.length:=fun k hk=>by
  obtain⟨c,hc,_⟩:=(h.mem l hl k).1 hk;exact zBR.2 (zAA.1 hc).1
 simpa using(h.nd l hl).length_le_of_subset h1
structure Sm(s s':Sol):Prop where
 lim:s'.lim=s.lim
 lrn:s'.lrn=s.lrn
 cl:s'.cls.length=s.cls.length
theorem Sm.refl(s:Sol):Sm s s:=⟨rfl,rfl,rfl⟩
theorem Sm.trans{a b c:Sol}(h:Sm a b)(k:Sm b c):Sm a c:=⟨k.lim.trans h.lim,k.lrn.trans h.lrn,k.cl.trans h.cl⟩
end S
def bDv(n:Nat)(cs0 done:List (List Int))(s':S.Sol)(e:Ending):Prop:=
 (e= .returned (.int .i64 (-1))/\s'.nxt=s'.trl.length/\S.Inv n cs0 done s'.trl.length s')\/
 ∃(k p:Nat) (c:List Int),e= .returned (.int .i64 (k:Int))/\s'.cls[k]? =some c/\(∀m∈c,S.val s'.val m= -1)/\S.Inv n cs0 done p s'/\s'.nxt=p+1/\s'.nxt<=s'.trl.length
def aSb(w:World)(B0 Sb n:Nat)(cs0 done:List (List Int))(s:S.Sol)(e:Ending)(w':World):Prop:=
 ∃tg' v' s',SAt w' B0 Sb tg' n v' s'/\Below B0 w w'/\S.Sm s s'/\bDv n cs0 done s' e
section
variable {w : World} {B0 Sb n : Nat} {tg : TgF} {v : Sv} {s : S.Sol} {cs0 done : List (List Int)}
theorem SAt.setLit(h:SAt w B0 Sb tg n v s){k:Nat}{c:List Int}(hk:s.cls[k]? =some c){i:Nat}(hi:i<c.length)(x:Int){gu ou cu gc oc cc:Nat}(hcl:v.cl= .slice (some ⟨gc,oc,none⟩) s.cls.length cc)(hu:w.cell? ⟨gc,oc+k,none⟩=some (.slice (some ⟨gu,ou,none⟩) c.length cu)):
 SAt (w.setCell ⟨gu,ou+i,none⟩ (.int .i64 x)) B0 Sb tg n v {s with cls:=s.cls.set k (c.set i x)}/\tg gu=some (.cl k):=by
 obtain⟨us,c1,c2,c3⟩:=h.cl;obtain⟨u,hu',ho,ht⟩:=c3 k (siv c) (by rw[zAW,hk];rfl);obtain⟨gc',oc',cc',e1,e2,_,_,_⟩:=aAg c1.1 hu';rw[hcl]at e1;injection e1 with q3 _ _
 injection q3 with q3
 injection q3 with a1 a2 _
 subst a1 a2;rw[hu]at e2;obtain rfl:=zAH e2;have htg:tg gu=some (.cl k):=ht gu rfl;have k':=h.keep (TExt.refl tg) (fun t=>t= .cl k) (h.other htg (ou+i) (.int .i64 x));refine⟨⟨k'.st (by simp),k'.va (by simp),k'.le (by simp),k'.re (by simp),k'.ph (by simp),k'.we (by simp),h.ri,k'.tr (by simp),k'.li (by simp),k'.wa (by simp) (by simp),⟨us,?_,?_⟩,k'.lr (by simp) (by simp),fun b t hb=>by rw[aAf];exact h.lt b t hb,h.nv,h.nl,h.nr,h.np,h.nw⟩,htg⟩
 ·have:=c1.keep (TExt.refl tg) fun b hb=>h.other htg (ou+i) (.int .i64 x) b _ hb (by simp)
  show COwn _ _ _ _ _ (s.cls.set k (c.set i x)).length _
  rw[zBC];exact this
 ·refine⟨by simpa using c2,fun q d hd=>?_⟩;have hd':((s.cls.set k (c.set i x)).map siv)[q]? =some d:=hd;rw[zAW,List.getElem?_set]at hd'
  by_cases e:k=q
  ·subst e;rw[if_pos rfl,if_pos (zAA.1 hk).1]at hd';obtain rfl:=zAH hd';refine⟨_,hu',⟨?_,ht⟩⟩;rw[aBu,zBC,aDd];rw[aBu]at ho;refine⟨by rw[zBC];exact ho.1,?_⟩;rcases ho.2 with⟨hv,h0⟩ |⟨g,off,cap,cur,hv,hg,hnc,hcm,hcs,hcur⟩
   ·cases hv
   ·injection hv with hA _ hcc
    injection hA with hA
    injection hA with a1 a2 _
    subst a1 a2 hcc;refine .inr ⟨gu,ou,cu,cur.setIfInBounds (ou+i) (.int .i64 x),rfl,?_,hnc,hcm,by simpa using hcs,fun j y hj=>?_⟩
    ·rw[heap_setCell_same w gu (ou+i) _ _ _ hg]
    ·rw[List.getElem?_set]at hj;rw[Array.getElem?_setIfInBounds]
     by_cases e2:i=j
     ·subst e2;rw[if_pos rfl]at hj⊢;split at hj
      ·rw[if_pos (by omega)];exact hj
      ·cases hj
     ·rw[if_neg e2]at hj;rw[if_neg (by omega)];exact hcur j y hj
  ·rw[if_neg e]at hd';obtain⟨u2,hu2,ho2⟩:=c3 q d (by rw[zAW];exact hd');exact⟨u2,hu2,ho2.keep (TExt.refl tg) fun b hb=>h.other htg (ou+i) (.int .i64 x) b _ hb (fun e3=>e (by injection e3 with e3;exact e3.symm))⟩
end
structure PO(w0:World)(B0 Sb n:Nat)(cs0 done:List (List Int))(s0:S.Sol)(s:S.Sol)(tg:TgF)(v:Sv)(w:World):Prop where
 sat:SAt w B0 Sb tg n v s
 bl:Below B0 w0 w
 sm:S.Sm s0 s
 inv:S.Inv n cs0 done s.nxt s
structure PI(w0:World)(B0 Sb n:Nat)(cs0 done:List (List Int))(s0:S.Sol)(p:Nat)(W:Int)(old:List Nat)(i:Nat)(kept:List Nat)(ko:Value)(kv:Value)(s:S.Sol)(tg:TgF)(v:Sv)(w:World):Prop where
 sat:SAt w B0 Sb tg n v s
 bl:Below B0 w0 w
 sm:S.Sm s0 s
 lp:S.Lp n cs0 done p W old i kept s
 nx:s.nxt=p+1
 old:OwnAt w 3 1 ko old.length (snv old)
 ot:∀g,ko.ownBlock=some g->tg g=some .wl
 kp:OwnAt w 3 1 kv kept.length (snv kept)
 kt:∀g,kv.ownBlock=some g->B0<=g/\tg g=none
 kl:kept.length<=i
section
variable {w w0 : World} {B0 Sb n : Nat} {tg : TgF} {v : Sv} {s s0 : S.Sol} {cs0 done : List (List Int)}
theorem PI.same{p:Nat}{W:Int}{old:List Nat}{i:Nat}{kept:List Nat}{ko kv:Value}{w':World}(h:PI w0 B0 Sb n cs0 done s0 p W old i kept ko kv s tg v w)(hd:Dr w w'):PI w0 B0 Sb n cs0 done s0 p W old i kept ko kv s tg v w':=
 ⟨h.sat.dr hd,h.bl.dr hd,h.sm,h.lp,h.nx,h.old.below (hd.below w.heap.size) h.old.lt,h.ot,h.kp.below (hd.below w.heap.size) h.kp.lt,h.kt,h.kl⟩
theorem PI.un{p:Nat}{W:Int}{old:List Nat}{i i':Nat}{kept:List Nat}{ko kv:Value}{w':World}{tg':TgF}{v':Sv}{s':S.Sol}(h:PI w0 B0 Sb n cs0 done s0 p W old i kept ko kv s tg v w)(hs:SAt w' B0 Sb tg' n v' s')(hu:Un tg w tg' w')(hb:Below B0 w w')(hsm:S.Sm s s')(hn:s'.nxt=s.nxt)
 (hlp:S.Lp n cs0 done p W old i' kept s') (hi:i<=i'):PI w0 B0 Sb n cs0 done s0 p W old i' kept ko kv s' tg' v' w':=
 ⟨hs,h.bl.trans hb,h.sm.trans hsm,hlp,hn.trans h.nx,h.old.same fun g hg=>(hu.wl g (h.ot g hg)).2,fun g hg=>(hu.wl g (h.ot g hg)).1,h.kp.same fun g hg=>(hu.no g (h.kp.lt g hg) (h.kt g hg).2).2,fun g hg=>⟨(h.kt g hg).1,(hu.no g (h.kp.lt g hg) (h.kt g hg).2).1⟩,zBK h.kl hi⟩
theorem PI.push{p:Nat}{W:Int}{old:List Nat}{i:Nat}{kept:List Nat}{ko kv kv':Value}{w1:World}{E:TypeId}{k:Nat}(h:PI w0 B0 Sb n cs0 done s0 p W old i kept ko kv s tg v w)(ho:OwnAt w1 3 1 kv' (kept.length+1) (snv kept ++ [.int .i64 (k:Int)]))(hg:(w.alloc (.cells #[.int .i64 (k:Int)] E)).grownBy w1 kv.ownBlock)(hat:kv'.ownBlock=kv.ownBlock\/kv'.ownBlock=some (w.heap.size+1)):
 SAt w1 B0 Sb tg n v s/\Below B0 w0 w1/\OwnAt w1 3 1 ko old.length (snv old)/\OwnAt w1 3 1 kv' (kept ++ [k]).length (snv (kept ++ [k]))/\(∀g,kv'.ownBlock=some g->B0<=g/\tg g=none)/\(∀b t,tg b=some t->w1.heap[b]? =w.heap[b]?):=by
 have hW:Below w.heap.size w (w.alloc (.cells #[.int .i64 (k:Int)] E)):=al0;have hsz:(w.alloc (.cells #[.int .i64 (k:Int)] E)).heap.size=w.heap.size+1:=by simp
 have hk:∀b t,tg b=some t->w1.heap[b]? =w.heap[b]? :=fun b t hb=>
  (hg.block b (by have:=(h.sat.lt b t hb).2;omega) fun e=>by have:=(h.kt b e.symm).2;rw[this]at hb;cases hb).trans (hW.block b (h.sat.lt b t hb).2)
 have hs:w.heap.size<=w1.heap.size:=by have:=hg.size;omega
 have hb0:=(h.sat.lt Sb _ h.sat.st.2);refine⟨h.sat.frame hs hk,h.bl.trans ((hW.mono (by omega)).grown hg (by omega) (fun g hg=>(h.kt g hg).1)),h.old.same fun g hg=>hk g _ (h.ot g hg),?_,fun g hg=>?_,hk⟩
 ·rw[aLd,zAX];exact ho
 ·rcases hat with e | e
  ·exact h.kt g (by rw[<-e];exact hg)
  ·rw[e]at hg;obtain rfl:=zAH hg;exact⟨by omega,h.sat.none_ (by omega)⟩
theorem SAt.lits(h:SAt w B0 Sb tg n v s){k:Nat}{c:List Int}(hk:s.cls[k]? =some c){gu ou cu gc oc cc:Nat}(hcl:v.cl= .slice (some ⟨gc,oc,none⟩) s.cls.length cc)(hu:w.cell? ⟨gc,oc+k,none⟩=some (.slice (some ⟨gu,ou,none⟩) c.length cu)):
 (∀(i:Nat) (x:Int),c[i]? =some x->w.cell? ⟨gu,ou+i,none⟩=some (.int .i64 x))/\(∀i,w.frozen? ⟨gu,i,none⟩=false)/\tg gu=some (.cl k)/\tg gc=some .cls:=by
 obtain⟨us,c1,c2,c3⟩:=h.cl;obtain⟨u,hu',ho,ht⟩:=c3 k (siv c) (by rw[zAW,hk];rfl);obtain⟨gc',oc',cc',e1,e2,_,_,_⟩:=aAg c1.1 hu';rw[hcl]at e1;injection e1 with q3 _ _
 injection q3 with q3
 injection q3 with a1 a2 _
 subst a1 a2;rw[hu]at e2;obtain rfl:=zAH e2;have htg:tg gu=some (.cl k):=ht gu rfl;have htc:tg gc=some .cls:=c1.2 gc (by rw[hcl];rfl);refine⟨fun i x hx=>?_,fun i=>?_,htg,htc⟩
 ·rw[aBu]at ho;obtain⟨g',o',c',q1,q2,_⟩:=aAg ho (j:=i) (u:= .int .i64 x) (by unfold siv;rw[zAW,hx];rfl);injection q1 with q3 _ _
  injection q3 with q3
  injection q3 with a1 a2 _
  subst a1 a2;exact q2
 ·rcases ho.2 with⟨hv,h0⟩ |⟨g,off,cap,cur,hv,hg,_⟩
  ·cases hv
  ·injection hv with hA _ _
   injection hA with hA
   injection hA with a1 _ _
   subst a1;simp[World.frozen?,hg]
theorem aCz{w w':World}{b:Nat}(h:w'.heap[b]? =w.heap[b]?)(o:Nat):w'.cell? ⟨b,o,none⟩=w.cell? ⟨b,o,none⟩:=by
 unfold World.cell?;simp only[h]
theorem aTu{w w':World}{b:Nat}(h:w'.heap[b]? =w.heap[b]?)(o:Nat):w'.frozen? ⟨b,o,none⟩=w.frozen? ⟨b,o,none⟩:=by
 unfold World.frozen?;simp only[h]
theorem SAt.swap{k:Nat}{c:List Int}{a b:Int}{x y:Nat}(h:SAt w B0 Sb tg n v s)(hk:s.cls[k]? =some c)(hx:c[x]? =some a)(hy:c[y]? =some b){gu ou cu gc oc cc:Nat}(hcl:v.cl= .slice (some ⟨gc,oc,none⟩) s.cls.length cc)(hu:w.cell? ⟨gc,oc+k,none⟩=some (.slice (some ⟨gu,ou,none⟩) c.length cu)):
 SAt ((w.setCell ⟨gu,ou+x,none⟩ (.int .i64 b)).setCell ⟨gu,ou+y,none⟩ (.int .i64 a)) B0 Sb tg n v {s with cls:=s.cls.set k ((c.set x b).set y a)}/\
 Un tg w tg ((w.setCell ⟨gu,ou+x,none⟩ (.int .i64 b)).setCell ⟨gu,ou+y,none⟩ (.int .i64 a))/\
 Below B0 w ((w.setCell ⟨gu,ou+x,none⟩ (.int .i64 b)).setCell ⟨gu,ou+y,none⟩ (.int .i64 a))/\
 ((w.setCell ⟨gu,ou+x,none⟩ (.int .i64 b)).setCell ⟨gu,ou+y,none⟩ (.int .i64 a)).cell? ⟨gc,oc+k,none⟩=some (.slice (some ⟨gu,ou,none⟩) c.length cu)/\
 (∃z,(w.setCell ⟨gu,ou+x,none⟩ (.int .i64 b)).cell? ⟨gu,ou+y,none⟩=some (.int .i64 z))/\(w.setCell ⟨gu,ou+x,none⟩ (.int .i64 b)).frozen? ⟨gu,ou+y,none⟩=false:=by
 have hxl:=(zAA.1 hx).1;have hyl:=(zAA.1 hy).1;have hkl:=(zAA.1 hk).1;obtain⟨l1,l2,l3,l4⟩:=h.lits hk hcl hu;obtain⟨s1,_⟩:=h.setLit hk hxl b hcl hu;have e1:(w.setCell ⟨gu,ou+x,none⟩ (.int .i64 b)).cell? ⟨gc,oc+k,none⟩=some (.slice (some ⟨gu,ou,none⟩) c.length cu):=
  (aCz (h.other l3 (ou+x) (.int .i64 b) gc _ l4 (by simp)) _).trans hu
 have hk1:({s with cls:=s.cls.set k (c.set x b)}:S.Sol).cls[k]? =some (c.set x b):=by
  show(s.cls.set k (c.set x b))[k]? =_
  rw[List.getElem?_set,if_pos rfl,if_pos hkl]
 have hcl1:v.cl= .slice (some ⟨gc,oc,none⟩) ({s with cls:=s.cls.set k (c.set x b)}:S.Sol).cls.length cc:=by
  show v.cl= .slice _ (s.cls.set k (c.set x b)).length cc
  rw[zBC];exact hcl
 have hu1:(w.setCell ⟨gu,ou+x,none⟩ (.int .i64 b)).cell? ⟨gc,oc+k,none⟩=some (.slice (some ⟨gu,ou,none⟩) (c.set x b).length cu):=by rw[zBC];exact e1
 obtain⟨m1,m2,_,_⟩:=s1.lits hk1 hcl1 hu1;obtain⟨s2,_⟩:=s1.setLit hk1 (i:=y) (by rw[zBC];exact hyl) a hcl1 hu1;have hb0:=(h.lt gu _ l3).1;refine⟨?_,(Un.set l3 (by simp) _ _).trans (Un.set l3 (by simp) _ _),((Below.refl _ _).setCell (p:=⟨gu,ou+x,none⟩) hb0 _).setCell (p:=⟨gu,ou+y,none⟩) hb0 _,(aCz (s1.other l3 (ou+y) (.int .i64 a) gc _ l4 (by simp)) _).trans e1,?_,m2 _⟩
 ·have:(s.cls.set k (c.set x b)).set k ((c.set x b).set y a)=s.cls.set k ((c.set x b).set y a):=List.set_set ..;have h3:SAt ((w.setCell ⟨gu,ou+x,none⟩ (.int .i64 b)).setCell ⟨gu,ou+y,none⟩ (.int .i64 a)) B0 Sb tg n v {s with cls:=(s.cls.set k (c.set x b)).set k ((c.set x b).set y a)}:=s2;rw[this]at h3;exact h3
 ·have hyy:y<(c.set x b).length:=by rw[zBC];exact hyl
  exact⟨_,m1 y _ (zAB hyy)⟩
end
end
end Go.Proofs.YtchdbhggbdcapaaGreat
