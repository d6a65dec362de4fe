/- Part. -/
import Derived.Test.YtchdbhggbdcapaaGreatSuLX
import Derived.Shelf.Slices.CompactI
import Derived.Shelf.Slices.In.SortNone
import Derived.Shelf.Sort.Plain
import Derived.Test.YtchdbhggbdcapaaGreatProg
import Derived.Sort.OwnSortedInts
import Derived.Test.YtchdbhggbdcapaaGreatSu24
set_option linter.unusedVariables false
set_option linter.unusedSimpArgs false
set_option maxRecDepth 100000
set_option maxHeartbeats 16000000
section
open Go.Proofs.YtchdbhggbdcapaaGreat (tK tk rd tc gA kH)
namespace Go.Proofs
open Go.Shelf
def Tryz.lays189_ren:Go.Shelf.Ren:=⟨fun | 189=>92 | 125=>133 | 257=>132 | 128=>183 | 129=>184 | 294=>174 | 295=>175 | 296=>176 | 297=>177 | 298=>178 | 299=>179 | 216=>180 | 300=>181 | 301=>182 | 328=>198 | 329=>199 | 330=>200 | 331=>201 | 332=>202 | 215=>203 | 343=>207 | n=>n,fun | 28=>37 | 3=>3 | 46=>44 | 0=>0 | 51=>45 | 53=>190 | 4=>4 | 183=>195 | 182=>194 | 131=>91 | 5=>5 | 9=>9 | 218=>223 | 222=>227 | 228=>231 | 229=>232 | n=>n,fun | n=>n⟩
theorem Tryz.lays189:Go.Proofs.Lays.n189 Tryz.prog Tryz.lays189_ren:={
 mixed:=by kernel_rfl
 f125:=tc Tryz.func133
 f128:=tc Tryz.func183
 f129:=tc Tryz.func184
 f189:=tc Tryz.func92
 f215:=tc Tryz.func203
 f216:=tc Tryz.func180
 f257:=tc Tryz.func132
 f294:=tc Tryz.func174
 f295:=tc Tryz.func175
 f296:=tc Tryz.func176
 f297:=tc Tryz.func177
 f298:=tc Tryz.func178
 f299:=tc Tryz.func179
 f300:=tc Tryz.func181
 f301:=tc Tryz.func182
 f328:=tc Tryz.func198
 f329:=tc Tryz.func199
 f330:=tc Tryz.func200
 f331:=tc Tryz.func201
 f332:=tc Tryz.func202
 f343:=tc Tryz.func207
 t0:=Tryz.underlying0
 a0:=Tryz.isAgg0
 z0:=Tryz.sizeOf0
 v0:=Tryz.zeroValue0
 t3:=Tryz.underlying3
 a3:=Tryz.isAgg3
 z3:=Tryz.sizeOf3
 v3:=Tryz.zeroValue3
 t4:=Tryz.underlying4
 a4:=Tryz.isAgg4
 z4:=Tryz.sizeOf4
 v4:=Tryz.zeroValue4
 t5:=Tryz.underlying5
 a5:=Tryz.isAgg5
 z5:=Tryz.sizeOf5
 v5:=Tryz.zeroValue5
 t9:=Tryz.underlying9
 a9:=Tryz.isAgg9
 z9:=Tryz.sizeOf9
 v9:=Tryz.zeroValue9
 t28:=Tryz.underlying37
 a28:=Tryz.isAgg37
 z28:=Tryz.sizeOf37
 v28:=Tryz.zeroValue37
 t46:=Tryz.underlying44
 a46:=Tryz.isAgg44
 z46:=Tryz.sizeOf44
 v46:=Tryz.zeroValue44
 t51:=Tryz.underlying45
 a51:=Tryz.isAgg45
 z51:=Tryz.sizeOf45
 v51:=Tryz.zeroValue45
 t53:=Tryz.underlying190
 a53:=Tryz.isAgg190
 z53:=Tryz.sizeOf190
 v53:=Tryz.zeroValue190
 t131:=Tryz.underlying91
 a131:=Tryz.isAgg91
 z131:=Tryz.sizeOf91
 v131:=Tryz.zeroValue91
 t182:=Tryz.underlying194
 a182:=Tryz.isAgg194
 z182:=Tryz.sizeOf194
 v182:=Tryz.zeroValue194
 t183:=Tryz.underlying195
 a183:=Tryz.isAgg195
 z183:=Tryz.sizeOf195
 v183:=Tryz.zeroValue195
 t218:=Tryz.underlying223
 a218:=Tryz.isAgg223
 z218:=Tryz.sizeOf223
 v218:=Tryz.zeroValue223
 t222:=Tryz.underlying227
 a222:=Tryz.isAgg227
 z222:=Tryz.sizeOf227
 v222:=Tryz.zeroValue227
 t228:=Tryz.underlying231
 a228:=Tryz.isAgg231
 z228:=Tryz.sizeOf231
 v228:=Tryz.zeroValue231
 t229:=Tryz.underlying232
 a229:=Tryz.isAgg232
 z229:=Tryz.sizeOf232
 v229:=Tryz.zeroValue232}
open Go.Sort Go.RowKit in
theorem Tryz.slices_Sort_int(blk off cap:Nat)(zs:List Int)(w:World)(hH:Holds (Value.int .i64) w blk off zs.toArray)(hblk:blk<w.heap.size)(hsz:zs.length<4611686018427387904):
 Calls Tryz.prog 92 #[.slice (some ⟨blk,off,none⟩) zs.length cap] w fun e w'=>
  e= .returned (.tuple #[])/\∃n os,w'=grow (putRow (Value.int .i64) (Sort.ahead w n) blk off (zs.mergeSort fun x y=>decide (x<=y)).toArray) os:=Any.slices_Sort_int Tryz.lays189 blk off cap zs w hH hblk hsz
def Tryz.laysNm220_ren:Go.Shelf.Ren:=⟨fun | 20=>93 | n=>n,fun | 22=>37 | 3=>3 | 4=>4 | 0=>0 | n=>n,fun | n=>n⟩
theorem Tryz.laysNm220:Go.Proofs.Lays2.n20 Tryz.prog Tryz.laysNm220_ren:={
 mixed:=by kernel_rfl
 f20:=tc Tryz.func93
 t0:=Tryz.underlying0
 a0:=Tryz.isAgg0
 z0:=Tryz.sizeOf0
 v0:=Tryz.zeroValue0
 t3:=Tryz.underlying3
 a3:=Tryz.isAgg3
 z3:=Tryz.sizeOf3
 v3:=Tryz.zeroValue3
 t4:=Tryz.underlying4
 a4:=Tryz.isAgg4
 z4:=Tryz.sizeOf4
 v4:=Tryz.zeroValue4
 t22:=Tryz.underlying37
 a22:=Tryz.isAgg37
 z22:=Tryz.sizeOf37
 v22:=Tryz.zeroValue37
 i3:=by kernel_rfl}
open Go.RowKit Go.Lib Go.Sort in
theorem Tryz.slices_Compact_int(blk off cap:Nat)(zs:List Int)(w:World)(hH:Holds (Value.int .i64) w blk off zs.toArray)(hsz:zs.length<=9223372036854775807)(hcap:zs.length<=cap):
 Calls Tryz.prog 93 #[.slice (some ⟨blk,off,none⟩) zs.length cap] w fun e w'=>e= .returned (.slice (some ⟨blk,off,none⟩) (Lib.compact zs).length cap)/\∃q,w'=putRow (Value.int .i64) (Sort.ahead w q) blk off (Lib.compact zs ++ List.replicate (zs.length- (Lib.compact zs).length) 0).toArray:=Any.slices_Compact_int Tryz.laysNm220 blk off cap zs w hH hsz hcap
open Go.RowKit Go.Lib Go.Sort in
theorem Tryz.slices_Compact_int_empty(a:Option Addr)(cap:Nat)(w:World):
 Calls Tryz.prog 93 #[.slice a 0 cap] w fun e w'=>e= .returned (.slice a 0 cap)/\w'=w:=Any.slices_Compact_int_empty Tryz.laysNm220 a cap w
open Go.RowKit Go.Sort in
theorem Tryz.slices_Sort_int_none(p:Option Addr)(cap:Nat)(w:World):
 Calls Tryz.prog 92 #[.slice p 0 cap] w fun e w'=>e= .returned (.tuple #[])/\w'=w:=Any.slices_Sort_int_none Tryz.lays189 p cap w
end Go.Proofs
end
namespace Go.Proofs.YtchdbhggbdcapaaGreat
open _root_.Go.Proofs.Tryz
section
open Go.RowKit Go.Maps Go.Sort
theorem OwnAt.holds{w:World}{e:TypeId}{g off cap n:Nat}{cur:Array Value}{xs:List Int}(hg:w.heap[g]? =some (.cells cur e (0,0)))(hcur:∀j u,(xs.map (Value.int .i64))[j]? =some u->cur[off+j]? =some u):Holds (Value.int .i64) w g off xs.toArray:=by
 intro j hj;have hj':j<xs.length:=by simpa using hj
 refine⟨?_,by simp[World.frozen?,hg]⟩;rw[cell_of_row w g _ cur e (0,0) hg];rw[hcur j (.int .i64 xs[j]) (by simp[hj'])];simp[hj']
theorem OwnAt.put{w:World}{e:TypeId}{g off cap n q:Nat}{os:Array Obj}{cur:Array Value}(xs:List Int)(k:Nat)(hg:w.heap[g]? =some (.cells cur e (0,0)))(hk:k<=cap)(hxl:k<=xs.length)(hcm:cap<=maxLen)(hcs:off+cap*1<=cur.size):
 OwnAt (grow (putRow (Value.int .i64) (Sort.ahead w q) g off xs.toArray) os) e 1 (.slice (some ⟨g,off,none⟩) k cap) k ((xs.take k).map (Value.int .i64)):=by
 have hlt:g<w.heap.size:=(gA hg).1;refine⟨by simp;omega, .inr ⟨g,off,cap,putCells (Value.int .i64) off xs.toArray cur,rfl,?_,hk,hcm,by simp[putCells];omega,fun j u hu=>?_⟩⟩
 ·rw[heap_grow_old _ _ (by simpa using hlt)];simp[putRow,mapBlock,Sort.ahead,Array.getElem?_modify,hg,onCells]
 ·rw[zAW,zBB]at hu;split at hu
  ·rename_i hjk;have hj:j<xs.length:=by omega
   rw[zAB hj]at hu;simp at hu;subst hu;simp[putCells,hj,show off+j<cur.size by omega]
  ·cases hu
theorem aLz{w:World}{g off q:Nat}{os:Array Obj}(d:Array Int):w.grownBy (grow (putRow (Value.int .i64) (Sort.ahead w q) g off d) os) (some g):=by
 refine⟨rfl,rfl,rfl,by simp,fun k hk hne=>?_⟩;rw[heap_grow_old _ _ (by simpa using hk)];have:g≠k:=fun e=>hne (by rw[e])
 simp[putRow,mapBlock,Sort.ahead,Array.getElem?_modify,this]
theorem aKt(w:World)(r:Option Nat):w.grownBy w r:=⟨rfl,rfl,rfl,zBJ _,fun _ _ _=>rfl⟩
def bCb(w:World)(v:Value)(n:Nat)(xs:List Int)(e:Ending)(w':World):Prop:=e= .returned (.tuple #[])/\OwnAt w' 3 1 v n ((srt xs).map (Value.int .i64))/\w.grownBy w' v.ownBlock
theorem bCc(v:Value)(n:Nat)(xs:List Int)(w:World)(h:OwnAt w 3 1 v n (xs.map (Value.int .i64)))(hn:n<4611686018427387904):
 Calls prog 92 #[v] w (bCb w v n xs):=by
 have hl:xs.length=n:=by simpa using h.1
 rcases h.2 with⟨rfl,rfl⟩ |⟨g,off,cap,cur,rfl,hg,hnc,hcm,hcs,hcur⟩
 ·obtain rfl:=List.length_eq_zero_iff.1 hl;refine(Tryz.slices_Sort_int_none none 0 w).mono ?_;rintro e w' ⟨rfl,rfl⟩;exact⟨rfl,by unfold srt;simpa using h,aKt _ _⟩
 ·have hlt:g<w.heap.size:=(gA hg).1;have con:=Tryz.slices_Sort_int g off cap xs w (OwnAt.holds (cap:=cap) (n:=n) hg hcur) hlt (by omega);rw[hl]at con;refine con.mono ?_;rintro e w' ⟨rfl,q,os,rfl⟩;refine⟨rfl,?_,aLz _⟩;have h3:=OwnAt.put (q:=q) (os:=os) (n:=n) (srt xs) n hg hnc (by rw[aJb];omega) hcm hcs
  rwa [zAK (by rw[aJb];omega)]at h3
def aUk(w:World)(v:Value)(xs:List Int)(e:Ending)(w':World):Prop:=∃v',e= .returned v'/\v'.ownBlock=v.ownBlock/\OwnAt w' 3 1 v' (Lib.compact xs).length ((Lib.compact xs).map (Value.int .i64))/\w.grownBy w' v.ownBlock
theorem aUl(v:Value)(n:Nat)(xs:List Int)(w:World)(h:OwnAt w 3 1 v n (xs.map (Value.int .i64)))(hn:n<4611686018427387904):
 Calls prog 93 #[v] w (aUk w v xs):=by
 have hl:xs.length=n:=by simpa using h.1
 rcases h.2 with⟨rfl,rfl⟩ |⟨g,off,cap,cur,rfl,hg,hnc,hcm,hcs,hcur⟩
 ·obtain rfl:=List.length_eq_zero_iff.1 hl;refine(Tryz.slices_Compact_int_empty none 0 w).mono ?_;rintro e w' ⟨rfl,rfl⟩;exact⟨_,rfl,rfl,by simpa[Lib.compact,Lib.compactUpTo]using h,aKt _ _⟩
 ·have hlt:g<w.heap.size:=(gA hg).1;have con:=Tryz.slices_Compact_int g off cap xs w (OwnAt.holds (cap:=cap) (n:=n) hg hcur) (by omega) (by omega);rw[hl]at con;refine con.mono ?_;rintro e w' ⟨rfl,q,rfl⟩;have hle:=Lib.compact_length_le xs;refine⟨_,rfl,rfl,?_,?_⟩
  ·have h3:=OwnAt.put (q:=q) (os:= #[]) (n:=n) (Lib.compact xs ++ List.replicate (n- (Lib.compact xs).length) 0) (Lib.compact xs).length hg (by omega) (by simp) hcm hcs;rw[grow_empty]at h3;simpa using h3
  ·have h3:=aLz (w:=w) (g:=g) (off:=off) (q:=q) (os:= #[]) (Lib.compact xs ++ List.replicate (n- (Lib.compact xs).length) 0).toArray;rw[grow_empty]at h3;exact h3
theorem aXm(A:Option Addr)(m c:Nat)(xs:List Int)(x:Int)(w:World)(hA:SlAt (IntR .i64) w A m xs):
 Calls prog 134 #[.slice A m c, .int .i64 x] w fun e w'=>∃i:Int,e= .returned (.int .i64 i)/\decide (0<=i)=decide (x∈xs)/\w=w':=by
 have hl:=hA.le;have HA:=kH hA;clear hA
 go_enter func134,ntmps134
 go_wp2
 go_loop [8] (fun i=>∃k:Nat,k<=m/\i= .int .i64 k/\Hid (x∉xs.take k)) (fun i=>m- (intOf i).toNat)
 case atStart=>exact⟨0,zBL _,rfl,by show _∉_;simp⟩
 case round=>
  obtain⟨k,hk,rfl,HT⟩:=hrel
  by_cases hlt:k<m
  ·obtain⟨y,b,off,u,hx,rfl,_,h1,rfl⟩:=HA.out.at_ hlt;have Hx:=kH hx;clear hx
   by_cases he:x=y
   ·subst he;go_wp2;go_ret;exact⟨k,rfl,by simp[zAC Hx.out],rfl⟩
   ·have hb:(x == y)=false:=by simpa using he
    have He:=kH he;clear he;go_wp2
    go_round
    case rel=>exact⟨k+1,by omega,by go_num,by show _∉_;rw[aBc Hx.out,zBE];rintro(h | h);exact HT.out h;exact He.out (zBD.1 h)⟩
    case measure=>simp[intOf];omega
  ·go_wp2;go_ret;have h3:=HT.out;rw[aB0 HA.out.len (by omega)]at h3;exact⟨-1,rfl,by simp[h3],rfl⟩
theorem aQp(A:Option Addr)(m c:Nat)(xs:List Int)(x:Int)(w:World)(hA:SlAt (IntR .i64) w A m xs):
 Calls prog 95 #[.slice A m c, .int .i64 x] w fun e w'=>e= .returned (.bool (decide (x∈xs)))/\w=w':=by
 have Hcon:=kH (aXm A m c xs x w hA);clear hA
 go_enter func95,ntmps95
 go_wp2_with fail
 refine Hcon.out.mono ?_;rintro e w' ⟨i,rfl,hi,rfl⟩;go_wp2;go_ret;refine⟨aA5 ?_,rfl⟩;rw[<-hi]
end
section
open Go.RowKit
namespace S
def aCj(k:List Int):List Int:=Lib.compact (srt k)
def plainOk(k:List Int):Bool:= !(aCj k).any fun l=>decide (l<0) && decide (-l∈aCj k)
theorem aFh(k:List Int):Eqv (aCj k) k:=fun m=>(aLx k).2 m
theorem aL0(k:List Int):(aCj k).Nodup:=(aLx k).1.imp fun h=>Int.ne_of_lt h
theorem aSy{n:Int}{k:List Int}(h:isClause n k=true):isClause n (aCj k)=true:=by
 rw[isClause,zAD]at h⊢;exact fun x hx=>h x ((aFh k x).1 hx)
theorem aXn{n:Int}{k:List Int}(hk:isClause n k=true)(h:plainOk k=false):Taut k:=by
 unfold plainOk at h;simp only[Bool.not_eq_false',List.any_eq_true,Bool.and_eq_true,zBQ]at h;obtain⟨l,h1,_,h3⟩:=h;exact⟨l,(aFh k l).1 h1,(aFh k _).1 h3⟩
theorem aZ0{n:Int}{k:List Int}(hk:isClause n k=true)(h:plainOk k=true):((aCj k).map Int.natAbs).Nodup:=by
 unfold plainOk at h;simp only[Bool.not_eq_true',List.any_eq_false,Bool.and_eq_true,zBQ,not_and]at h;rw[List.Nodup,List.pairwise_map];refine(aL0 k).imp_of_mem fun{a b} ha hb hne e=>?_
 have hab:a= -b:=by omega
 rcases Int.lt_or_le a 0 with h0 | h0
 ·exact h a ha h0 (by rw[hab,Int.neg_neg];exact hb)
 ·have hb0:b<0:=by omega
  exact h b hb hb0 (by rw[<-hab];exact ha)
theorem aZ1(k:List Int):(aCj k).length<=k.length:=by
 have h1:=(aL0 k).length_le_of_subset (l₂:=k) (fun x hx=>(aFh k x).1 hx);exact h1
end S
def aZ2(k:List Int)(W:World)(e:Ending)(W':World):Prop:=
 ∃A c,e= .returned (.tuple #[.slice A (S.aCj k).length c, .bool (S.plainOk k)])/\OwnAt W' 3 1 (.slice A (S.aCj k).length c) (S.aCj k).length (siv (S.aCj k))/\Below W.heap.size W W'/\∀g,(Value.slice A (S.aCj k).length c).ownBlock=some g->W.heap.size<=g
theorem aUm(g:Nat)(A:Option Addr)(m c:Nat)(P:List Int)(w:World)(hc:w.cell? ⟨g,0,none⟩=some (.slice A m c))(hA:SlAt (IntR .i64) w A m P):
 aK9 94 #[.pointer (some ⟨g,0,none⟩)] (fun l=>decide (l<0) && decide (wrap64 (-l)∈P)) w:=by
 refine⟨fun args W'=>by simp[callFunc,go_sem,Tryz.f94],fun l=>?_⟩;have Hcon:=kH (aQp A m c P (wrap64 (-l)) w hA);clear hA;simp only[List.append_toArray,List.nil_append,List.cons_append]
 by_cases hl:l<0
 ·have hd:decide (l<0)=true:=by simpa using hl
  go_enter func94,ntmps94
  go_wp2_with fail
  refine Hcon.out.mono ?_;rintro e w' ⟨rfl,rfl⟩;go_wp2;go_ret;exact⟨by simp[hl],rfl⟩
 ·have hd:decide (l<0)=false:=by simpa using hl
  go_enter func94,ntmps94
  go_wp2;go_ret;exact⟨by simp,rfl⟩
theorem aXo(k:List Int)(hk:∀l∈k,-4000<=l/\l<=4000):((S.aCj k).any fun l=>decide (l<0) && decide (wrap64 (-l)∈S.aCj k))= !S.plainOk k:=by
 unfold S.plainOk;rw[Bool.not_not,Bool.eq_iff_iff,List.any_eq_true,List.any_eq_true];have hw:∀l∈S.aCj k,wrap64 (-l)= -l:=fun l hl=>by
  have:=hk l ((S.aFh k l).1 hl);exact IntWalk.wrap64_in (-l) (by omega)
 constructor
 ·rintro⟨l,h1,h2⟩;exact⟨l,h1,by rw[hw l h1]at h2;exact h2⟩
 ·rintro⟨l,h1,h2⟩;exact⟨l,h1,by rw[hw l h1];exact h2⟩
theorem aXp(A:Option Addr)(n c:Nat)(k:List Int)(W:World)(h:SlAt (IntR .i64) W A n k)(hk:∀l∈k,-4000<=l/\l<=4000)(hn:n<=900000):Calls prog 58 #[.slice A n c] W (aZ2 k W):=by
 have hkl:k.length=n:=h.len;have Hcl:=kH (aIy (A:=A) (n:=n) (c:=c) (us:=siv k) (W:=W) (by rw[aBu,hkl,Nat.mul_one]) (fun j u hj=>by
  unfold siv at hj;rw[zAW]at hj;cases hx:k[j]? with
  | none=>rw[hx]at hj;cases hj
  | some x=>
   rw[hx]at hj;obtain rfl:=zAH hj;obtain⟨b,off,u,e1,e2,e3,e4⟩:=h.2.2 j x hx;exact⟨⟨b,off,none⟩,e1,by rw[show(⟨b,off,none⟩:Addr).add j=⟨b,off+j,none⟩from by simp[Addr.add]];rw[e3,e4]⟩) (fun u hu=>by
  obtain⟨x,_,rfl⟩:=zBU.1 hu;rfl) (fun ad hne had=>by
  have h0:0<k.length:=by
   rcases Nat.eq_zero_or_pos k.length with h | h
   ·rw[List.length_eq_zero_iff.1 h]at hne;exact absurd rfl hne
   ·exact h
  obtain⟨x,hx⟩:∃x,k[0]? =some x:=⟨_,zAB h0⟩;obtain⟨b,off,u,e1,e2,e3,e4⟩:=h.2.2 0 x hx;rw[had]at e1;obtain rfl:=zAH e1;exact e2) (by omega))
 have Hk:=kH hk;have hnlt:n<4611686018427387904:=by omega
 clear h hk
 go_enter func58,ntmps58
 go_wp2_with fail
 refine Hcl.out.mono ?_;rintro e w1 ⟨v1,rfl,k1,k2,k3⟩;obtain⟨A1,c1,rfl⟩:=k1.form;have hlt1:∀g,(Value.slice A1 n c1).ownBlock=some g->g<w1.heap.size:=k1.lt;have hX1:OwnAt (w1.alloc (.cells #[.slice A1 n c1] 37)) 3 1 (.slice A1 n c1) n (k.map (Value.int .i64)):=k1.alloc _;have Hsort:=kH (bCc (.slice A1 n c1) n k _ hX1 hnlt);have Hlt1:=kH hlt1;have Hk2:=kH k2;have Hk3:=kH k3;have Hr1:=kH (heap_alloc_new w1 (.cells #[.slice A1 n c1] 37));clear k1 k2 k3 hX1 hlt1 Hcl
 go_upto_region 2 with(fail)
 obtain⟨X,hX⟩:∃X,X=w1.alloc (.cells #[.slice A1 n c1] 37):=⟨_,rfl⟩;rw[<-hX]at Hsort Hr1⊢;have HX:=kH (show Below w1.heap.size w1 X from by rw[hX];exact al0);clear hX;have ct:=aB2 Hr1.out
 go_wp2_with fail
 refine Hsort.out.mono ?_;rintro e w2 ⟨rfl,s1,s2⟩;have hr2:w2.heap[w1.heap.size]? =some (.cells #[.slice A1 n c1] 37 (0,0)):=(s2.block _ (gA Hr1.out).1 fun e=>by have:=Hlt1.out _ e.symm;omega).trans Hr1.out;have hlen:(srt k).length=n:=by rw[aJb];exact hkl
 have Hcomp:=kH (aUl (.slice A1 n c1) n (srt k) w2 s1 hnlt);have Hs2:=kH s2;have Hr2:=kH hr2;clear s1 s2 hr2 hlen ct Hsort;have ct:=aB2 Hr2.out
 go_wp2_with fail
 refine Hcomp.out.mono ?_;rintro e w3 ⟨v3,rfl,s3,s4,s5⟩;obtain⟨A3,c3,rfl⟩:=s4.form;have hr3:w3.heap[w1.heap.size]? =some (.cells #[.slice A1 n c1] 37 (0,0)):=(s5.block _ (gA Hr2.out).1 fun e=>by have:=Hlt1.out _ e.symm;omega).trans Hr2.out;have ft3:w3.frozen? ⟨w1.heap.size,0,none⟩=false:=by simp[World.frozen?,hr3]
 have ct3:=aB2 hr3;have hne3:(Value.slice A3 (Lib.compact (srt k)).length c3).ownBlock≠some w1.heap.size:=fun e=>by rw[s3]at e;have:=Hlt1.out _ e;omega
 have HY:=kH (show OwnAt (w3.setCell ⟨w1.heap.size,0,none⟩ (.slice A3 (Lib.compact (srt k)).length c3)) 3 1 (.slice A3 (Lib.compact (srt k)).length c3) (Lib.compact (srt k)).length ((Lib.compact (srt k)).map (Value.int .i64))from s4.setCell (p:=⟨w1.heap.size,0,none⟩) hne3 _);have HrY:=kH (show(w3.setCell ⟨w1.heap.size,0,none⟩ (.slice A3 (Lib.compact (srt k)).length c3)).heap[w1.heap.size]? =some (.cells #[.slice A3 (Lib.compact (srt k)).length c3] 37 (0,0))from by rw[heap_setCell_same w3 w1.heap.size 0 _ _ _ hr3];rfl);have hb3:Below W.heap.size W w3:=by
  have h1:Below W.heap.size W X:=Hk2.out.trans (HX.out.mono Hk2.out.size);have h2:=h1.grown Hs2.out h1.size (fun g hg=>Hk3.out g hg);exact h2.grown s5 h2.size (fun g hg=>Hk3.out g hg)
 have HBY:=kH (show Below W.heap.size W (w3.setCell ⟨w1.heap.size,0,none⟩ (.slice A3 (Lib.compact (srt k)).length c3))from hb3.setCell (p:=⟨w1.heap.size,0,none⟩) Hk2.out.size _);have HoY:=kH (show∀g,(Value.slice A3 (Lib.compact (srt k)).length c3).ownBlock=some g->W.heap.size<=g from fun g hg=>by rw[s3]at hg;exact Hk3.out g hg);clear s3 s4 s5 hr3 hne3 hb3 ct Hcomp Hs2 Hr2
 go_upto_region 4 with(fail)
 obtain⟨Y,hY⟩:∃Y,Y=w3.setCell ⟨w1.heap.size,0,none⟩ (.slice A3 (Lib.compact (srt k)).length c3):=⟨_,rfl⟩;rw[<-hY]at HY HrY HBY⊢;clear hY ct3 ft3;have ct:=aB2 HrY.out;have Hcf:=kH (fun nn=>show Calls prog 87 #[.slice A3 (Lib.compact (srt k)).length c3, .func (.func 94) #[] #[.pointer (some ⟨w1.heap.size,0,none⟩)]] (Y.drewN nn) (fun e w''=>e= .returned (.bool !S.plainOk k)/\Y.drewN nn=w'')from by
  have hsl:SlAt (IntR .i64) (Y.drewN nn) A3 (Lib.compact (srt k)).length (Lib.compact (srt k)):=(HY.out.below (((Dr.refl Y).drewN nn).below Y.heap.size) HY.out.lt).slInts;have h1:=aRu 94 #[.pointer (some ⟨w1.heap.size,0,none⟩)] _ A3 _ c3 _ (Y.drewN nn) hsl (aUm w1.heap.size A3 _ c3 _ (Y.drewN nn) ct hsl);rw[show((Lib.compact (srt k)).any fun l=>decide (l<0) && decide (wrap64 (-l)∈Lib.compact (srt k)))= !S.plainOk k from aXo k Hk.out]at h1;exact h1)
 go_wp2
 go_quiet ((go_at_call 87;exact aD3 (Hcf.out _)))
 obtain⟨Z,hZ⟩:∃Z,Z=Y.drewN nq:=⟨_,rfl⟩;have HZ:Dr Y Z:=⟨nq,hZ⟩;rw[<-hZ];clear hZ;go_wp2;refine bodyPost_ret (results_tmp2 rfl _ _ _) rfl ?_;exact⟨A3,c3,by simp[S.aCj],HY.out.below (HZ.below Y.heap.size) HY.out.lt,HBY.out.dr HZ,HoY.out⟩
def bCd(n:Nat)(cs:List (List Int))(W':World)(e:Ending):Prop:=
 (∃A c model,e= .returned (.tuple #[.slice A n c, .slice none 0 0, .bool true, .int .i64 0])/\SlAt BoolR W' A n model/\model.length=n/\∀k∈cs,S.sat model k=true)\/
 (∃A c l,e= .returned (.tuple #[.slice none 0 0, .slice A l.length c, .bool false, .int .i64 0])/\SlAt (SlR (IntR .i64)) W' A l.length l/\S.aBg cs l=none/\l.length<=3001/\∀k∈l,S.isClause n k=true/\k.length<=n)\/
 (e= .returned (.tuple #[.slice none 0 0, .slice none 0 0, .bool false, .int .i64 3])/\¬S.aA2 cs []/\∃k∈cs,∀l∈k,¬S.Der cs [] l)
def aPz(n:Nat)(cs:List (List Int))(W:World)(e:Ending)(W':World):Prop:=Below W.heap.size W W'/\bCd n cs W' e
structure AdI(n:Nat)(cs:List (List Int))(W:World)(B0 Sb:Nat)(i:Nat)(s:S.Sol)(tg:TgF)(v:Sv)(w:World):Prop where
 sat:SAt w B0 Sb tg n v s
 bl:Below W.heap.size W w
 inv:S.Inv n cs (cs.take i) 0 s
 lim:s.lim= []
 lrn:s.lrn= []
 nxt:s.nxt=0
 cl:s.cls.length<=i
theorem AdI.small{n:Nat}{cs:List (List Int)}{W w:World}{B0 Sb i:Nat}{s:S.Sol}{tg:TgF}{v:Sv}(h:AdI n cs W B0 Sb i s tg v w){l:Int}(hl:S.isLit n l=true):(s.wat.getD (S.pl l) []).length<=i:=zBK (h.inv.wat.small hl) h.cl
theorem bCe{A:Option Addr}{m c:Nat}{w:World}{l:Int}(h:OwnAt w 3 1 (.slice A m c) m (siv [l]))(hm:m=1):∃g o,A=some ⟨g,o,none⟩/\w.cell? ⟨g,o,none⟩=some (.int .i64 l):=by
 obtain⟨g,o,c',e1,e2,_⟩:=aAg h (j:=0) (u:= .int .i64 l) rfl;injection e1 with e1 _ _
 exact⟨g,o,e1,by rw[zBI]at e2;exact e2⟩
theorem aDr{fn:Func}{t u v x:Tmp}(h:fn.results= #[.tmp t, .tmp u, .tmp v, .tmp x])(tmps:Array Value)(P:Program)(w:World):
 (results fn tmps).run P w= .ok (.tuple #[tmps.getD t undef,tmps.getD u undef,tmps.getD v undef,tmps.getD x undef]) w:=by
 simp[results,h]
theorem bCf{n B0 Sb:Nat}{w w1:World}{tg:TgF}{v:Sv}{s:S.Sol}(h:SAt w B0 Sb tg n v s){us:List Value}{A':Option Addr}{c':Nat}{E:TypeId}(hc1:COwn w tg .lrn 37 v.lr s.lrn.length us)(hc2:CEls w tg (fun _=> .wl) us (s.lrn.map siv))
 (ho:OwnAt w1 37 1 (.slice A' (s.lrn.length+1) c') (s.lrn.length+1) (us ++ [.slice none 0 0])) (hg:(w.alloc (.cells #[.slice none 0 0] E)).grownBy w1 v.lr.ownBlock):
 SlAt (SlR (IntR .i64)) w1 A' (s.lrn ++ [[]]).length (s.lrn ++ [[]]):=by
 have hul:us.length=s.lrn.length:=by have:=hc2.1;simpa using this
 have hsz:(w.alloc (.cells #[.slice none 0 0] E)).heap.size=w.heap.size+1:=by simp
 have hle:=ho.le;refine⟨rfl,by simpa using hle,fun k x hk=>?_⟩;have hkl:=(zAA.1 hk).1;rw[zAX,List.length_singleton]at hkl;have hel:∃u,(us ++ [Value.slice none 0 0])[k]? =some u/\SlR (IntR .i64) w1 u x:=by
  rcases Nat.lt_or_ge k s.lrn.length with hlt | hge
  ·rw[zAE hlt]at hk;obtain⟨u,hu,hou,htu⟩:=hc2.2 k (siv x) (by rw[zAW,hk];rfl);rw[aBu]at hou;refine⟨u,by rw[zAE (by omega)];exact hu,?_⟩;have hou1:OwnAt w1 3 1 u x.length (siv x):=hou.same fun g hgu=>(hg.block g (by have:=hou.lt g hgu;omega) fun e=>by
    have h1:=hc1.2 g e.symm;rw[htu g hgu]at h1;cases h1).trans (Below.heap_alloc w _ g (hou.lt g hgu))
   obtain⟨Au,cu,rfl⟩:=hou1.form;exact⟨Au,cu,rfl,hou1.slInts⟩
  ·have hk2:k=s.lrn.length:=by omega
   subst hk2;rw[zAF (zBJ _)]at hk;obtain rfl: []=x:=by simpa using hk
   refine⟨.slice none 0 0,by rw[zAF (by omega)];simp[hul],none,0,rfl,rfl,by simp,fun j y hj=>by simp at hj⟩
 obtain⟨u,hu,hsl⟩:=hel;obtain⟨g,o,c2,e1,e2,e3,_⟩:=aAg ho hu;injection e1 with e1 _ _
 exact⟨g,o,u,e1,by
  unfold World.cell? at e2;cases hb:w1.heap[g]? with
  | none=>simp only[hb]at e2;cases e2
  | some ob=>exact(gA hb).1,e2,hsl⟩
def mdl(s:S.Sol)(n j:Nat):List Bool:=(List.range n).map fun i=>decide (i<j) && decide (0<s.val.getD (i+1) 0)
theorem aLi(s:S.Sol)(n j:Nat):(mdl s n j).length=n:=by simp[mdl]
theorem bCg(s:S.Sol)(n:Nat):mdl s n 0=List.replicate n false:=by
 unfold mdl;rw[List.eq_replicate_iff];exact⟨by simp,fun b hb=>by obtain⟨i,_,rfl⟩:=zBU.1 hb;simp⟩
theorem bCh(s:S.Sol){n j:Nat}(hj:j<n):(mdl s n j).set j (decide (0<s.val.getD (j+1) 0))=mdl s n (j+1):=by
 apply List.ext_getElem?;intro i;rw[List.getElem?_set];unfold mdl;rw[zAW,zAW,zAY,List.length_range]
 by_cases e:j=i
 ·subst e;rw[if_pos rfl,if_pos hj,List.getElem?_range hj];simp
 ·rw[if_neg e]
  by_cases hi:i<n
  ·rw[List.getElem?_range hi];simp only[Option.map_some]
   congr 2
   rw[decide_eq_decide];omega
  ·rw[zAN (by simpa using hi)];rfl
theorem aSz(w:World):Below w.heap.size w (w.alloc (.cells #[.slice none 0 0] 37))/\SlAt (SlR (IntR .i64)) (w.alloc (.cells #[.slice none 0 0] 37)) (some ⟨w.heap.size,0,none⟩) ([[]]:List (List Int)).length [[]]:=by
 refine⟨al0,rfl,by simp,fun k x hk=>?_⟩;have hk0:k=0:=by have:=(zAA.1 hk).1;simp at this;exact this
 subst hk0;obtain rfl: []=x:=by simpa using hk
 refine⟨w.heap.size,0, .slice none 0 0,rfl,by simp,?_,none,0,rfl,rfl,by simp,fun j y hj=>by simp at hj⟩;rw[cell_of_row _ _ _ _ _ (0,0) (heap_alloc_new w _)];rfl
theorem aXq(n:Nat)(hn:n<=4000)(A:Option Addr)(m c:Nat)(cs:List (List Int))(W:World)(hA:SlAt (SlR (IntR .i64)) W A m cs)(hv:S.aAe n cs=0)(hlen:∀k∈cs,k.length<=900000):
 Calls prog 36 #[.int .i64 (n:Int), .slice A m c] W (aPz n cs W):=by
 have hcl:cs.length=m:=hA.len;have hm:m<=24000:=by
  unfold S.aAe at hv;split at hv
  ·cases hv
  ·rename_i h;omega
 have hcc:∀k∈cs,S.isClause n k=true:=by
  unfold S.aAe at hv;split at hv
  ·cases hv
  ·split at hv
   ·rename_i h;exact zAD.1 h
   ·cases hv
 have Hval:=kH (aQo n A m c cs W hA);rw[hv]at Hval;have HA:=kH hA;have Hcc:=kH hcc;have Hlen:=kH hlen;have Hcl:=kH hcl;clear hA hcc hlen hcl hv
 go_enter func36,ntmps36
 go_wp2_with fail
 refine Hval.out.mono ?_;rintro e w1 ⟨rfl,hb1⟩;have Hb1:=kH hb1;have Hnew:=kH (bB8 n hn w1);clear hb1 Hval
 go_wp2_with fail
 refine Hnew.out.mono ?_;rintro e w2 ⟨Sb,tg,v,rfl,k1,k2⟩;have HI:=kH (show AdI n cs W w1.heap.size Sb 0 (S.Sol.new n) tg v w2 from⟨k1,Hb1.out.trans (k2.mono Hb1.out.size),S.Inv.init n cs,rfl,rfl,rfl,zBJ _⟩);clear k1 k2 Hnew;go_wp2
 go_loopg [26] (m+1) (fun g i26 wr=>∃(i:Nat) (s:S.Sol) (tg1:TgF) (v1:Sv),i<=m/\i26= .int .i64 (i:Int)/\g+i=m+1/\Hid (AdI n cs W w1.heap.size Sb i s tg1 v1 wr))
 case atStart=>exact⟨0,_,tg,v,zBL _,rfl,rfl,HI⟩
 case round=>
  obtain⟨i,s,tg1,v1,hi,rfl,hgk,H1⟩:=hrel;have Hgk:=kH hgk;clear hgk HI
  by_cases him:i<m
  ·obtain⟨k,b,off,u,hk,e1,hblt,hcl,Ak,ck,rfl,hsl⟩:=(HA.out.below (aC9 (aAd _)) H1.out.bl).at_ him;subst e1;have hkc:=Hcc.out k (zAC hk);have hkb:∀l∈k,-4000<=l/\l<=4000:=fun l hl=>by
    have:=S.aB1.1 (zAD.1 hkc l hl);omega
   have htk:cs.take (i+1)=cs.take i ++ [k]:=by rw[List.take_add_one,hk];rfl
   have Hpl:=kH (aXp Ak k.length ck k wr hsl hkb (Hlen.out k (zAC hk)));have Hk:=kH hk;have Hkc:=kH hkc;have Htk:=kH htk;clear hk hkc hkb htk hsl
   go_wp2_with fail
   refine Hpl.out.mono ?_;rintro e w3 ⟨A3,c3,rfl,p1,p2,p3⟩;have HS:=kH (H1.out.sat.below p2);have HB:=kH (H1.out.bl.trans (p2.mono H1.out.bl.size));have hB0:w1.heap.size<=wr.heap.size:=by have:=H1.out.sat.lt _ _ H1.out.sat.st.2;omega
   have Hun:=kH (show∀g,(Value.slice A3 (S.aCj k).length c3).ownBlock=some g->w1.heap.size<=g/\tg1 g=none from fun g hg=>⟨zBK hB0 (p3 g hg),H1.out.sat.none_ (p3 g hg)⟩);have Hp1:=kH p1;clear p1 p2 p3 hB0 Hpl;cases hok:S.plainOk k
   ·have Hok:=kH hok;go_wp2;have hgk:=Hgk.out
    go_roundg (gk-1)
    case measure=>omega
    case rel=>exact⟨i+1,s,tg1,v1,by omega,by simp,by omega,kH ⟨HS.out,HB.out,by rw[Htk.out];exact H1.out.inv.more (.inl (S.aXn Hkc.out Hok.out)),H1.out.lim,H1.out.lrn,H1.out.nxt,Nat.le_succ_of_le H1.out.cl⟩⟩
   ·have heq:=S.aFh k;have hpc:=S.aSy Hkc.out;have hpn:=S.aZ0 Hkc.out hok;have hpl:=zBK (S.aZ1 k) (Hlen.out k (zAC Hk.out));obtain⟨P,hP⟩:∃P,S.aCj k=P:=⟨_,rfl⟩;rw[hP]at heq hpc hpn hpl Hp1 Hun⊢;have Heq:=kH heq;have Hpc:=kH hpc;have Hpn:=kH hpn;have htrs:s.trl.length<=4000:=by have:=H1.out.inv.trl.size;omega
    have hlms:s.lim.length<=4000:=by rw[H1.out.lim];simp
    clear heq hpc hpn hP;cases P with
    | nil=>
     have Had:=kH (aZt A3 c3 (.pointer (some ⟨Sb,0,none⟩)) w3);rw[show([]:List Int).length=0 from rfl]
     go_wp2_with fail
     refine Had.out.mono ?_;rintro e w4 ⟨rfl,rfl⟩;go_wp2;refine bodyPost_ret (aDr rfl _ _ _) rfl ?_;have hnone:=aSz w3;exact⟨HB.out.trans (by exact(hnone.1.mono HB.out.size)), .inr (.inl ⟨_,_, [[]],rfl,hnone.2,S.bBj (zAC Hk.out) Heq.out,by simp,by simp[S.isClause]⟩)⟩
    | cons a P1=>
     have hla:S.isLit n a=true:=zAD.1 Hpc.out a (by simp);cases P1 with
     | nil=>
      obtain⟨g,o,rfl,hca⟩:=bCe Hp1.out rfl;have Had:=kH (aZu HS.out hn hla H1.out.inv.trl.wf htrs hlms Hp1.out hca);have hv3:=H1.out.inv.trl.wf.val a;obtain⟨x,hx⟩:∃x,S.val s.val a=x:=⟨_,rfl⟩;rw[hx]at Had hv3;have Hx:=kH hx;have Hla:=kH hla;clear hx hla hca htrs hlms;rw[show([a]:List Int).length=1 from rfl]
      go_wp2_with fail
      refine Had.out.mono ?_;rintro e w4 ⟨rfl,tg4,v4,q1,q2⟩;have HQ:=kH (And.intro q1 q2);clear q1 q2 Had;have hwm:W.heap.size<=w1.heap.size:=Hb1.out.size;rcases hv3 with rfl | rfl | rfl
      ·go_wp2;refine bodyPost_ret (aDr rfl _ _ _) rfl ?_;have hnone:=aSz w4;have hbw:=HB.out.trans (HQ.out.2.mono hwm);exact⟨hbw.trans (hnone.1.mono hbw.size), .inr (.inl ⟨_,_, [[]],rfl,hnone.2,H1.out.inv.add_false H1.out.lrn H1.out.lim (zAC Hk.out) Hla.out Heq.out Hx.out,by simp,by simp[S.isClause]⟩)⟩
      ·have HQ2:=kH (show SAt w4 w1.heap.size Sb tg4 n v4 (s.tell a (-1))from by have:=HQ.out.1;rw[if_pos rfl]at this;exact this);go_wp2;have hgk:=Hgk.out
       go_roundg (gk-1)
       case measure=>omega
       case rel=>exact⟨i+1,s.tell a (-1),tg4,v4,by omega,by simp,by omega,kH ⟨HQ2.out,HB.out.trans (HQ.out.2.mono hwm),by rw[Htk.out];exact H1.out.inv.add_tell H1.out.lrn H1.out.lim (zAC Hk.out) Hla.out Heq.out Hx.out,H1.out.lim,H1.out.lrn,H1.out.nxt,Nat.le_succ_of_le H1.out.cl⟩⟩
      ·have HQ2:=kH (show SAt w4 w1.heap.size Sb tg4 n v4 s from by have:=HQ.out.1;rw[if_neg (by decide)]at this;exact this);go_wp2;have hgk:=Hgk.out
       go_roundg (gk-1)
       case measure=>omega
       case rel=>exact⟨i+1,s,tg4,v4,by omega,by simp,by omega,kH ⟨HQ2.out,HB.out.trans (HQ.out.2.mono hwm),by rw[Htk.out];exact H1.out.inv.add_true H1.out.lim Hla.out Heq.out Hx.out,H1.out.lim,H1.out.lrn,H1.out.nxt,Nat.le_succ_of_le H1.out.cl⟩⟩
     | cons b r=>
      have hlb:S.isLit n b=true:=zAD.1 Hpc.out b (by simp);have hab:S.pl a≠S.pl b:=fun e=>S.aE1 Hpn.out (S.aEt e (S.aAc hla))
      have hcm:s.cls.length<=900000:=by have:=H1.out.cl;omega
      have Had:=kH (aZv HS.out hn hla hlb hab hcm ⟨zBK (H1.out.small hla) (by omega),zBK (H1.out.small hlb) (by omega)⟩ Hp1.out Hun.out);have hwm:W.heap.size<=w1.heap.size:=Hb1.out.size;clear hla hlb hab hcm htrs hlms;rw[show(a :: b :: r).length=r.length+2 from rfl]
      go_wp2_with fail
      refine Had.out.mono ?_;rintro e w4 ⟨rfl,tg4,v4,q1,q2⟩;have HQ:=kH (And.intro q1 q2);clear q1 q2 Had;go_wp2;have hgk:=Hgk.out
      go_roundg (gk-1)
      case measure=>omega
      case rel=>exact⟨i+1,s.addc a b (a :: b :: r),tg4,v4,by omega,by simp,by omega,kH ⟨HQ.out.1,HB.out.trans (HQ.out.2.mono hwm),by rw[Htk.out];exact H1.out.inv.add_cls (zAC Hk.out) Hpc.out Hpn.out Heq.out,H1.out.lim,H1.out.lrn,H1.out.nxt,by show(s.cls ++ [a :: b :: r]).length<=i+1;have:=H1.out.cl;simp;omega⟩⟩
  ·obtain rfl:i=m:=by omega
   have hwm:W.heap.size<=w1.heap.size:=Hb1.out.size;have hinv:S.Inv n cs cs s.nxt s:=by
    have h1:=H1.out.inv;rw[zAK (by rw[Hcl.out];exact zBJ _)]at h1;rw[H1.out.nxt];exact h1
   have hrb:S.RB n i cs s 60 0:=⟨fun h=>absurd H1.out.lrn h,by rw[H1.out.lrn];simp,zBK H1.out.cl (Nat.le_add_right _ _),⟨zBJ _,by omega⟩,zBL _,by rw[H1.out.lrn];intro c hc;cases hc⟩;have Hrun:=kH (bB6 H1.out.sat hn hinv Hcc.out (by omega) hrb);clear hinv hrb
   go_wp2_with fail
   refine Hrun.out.mono ?_;rintro e w4 ⟨tg4,v4,s4,q1,q2,(⟨rfl,q3,q4⟩ |⟨rfl,q3,q4,q5⟩ |⟨rfl,q3,q4⟩)⟩
   ·have HQ:=kH (And.intro q1 (And.intro (H1.out.bl.trans (q2.mono hwm)) (And.intro q3 q4)));clear q1 q2 q3 q4 Hrun;have hmk:=fun(W':World)=>aBd (P:=prog) 65 4 (.bool false) 1 underlying65 Tryz.sinfoBool rfl .i64 .i64 n (n:Int) rfl (by omega) (by omega) W'
    have HR0:=kH (show(w4.alloc (.cells (Array.replicate n (.bool false)) 4)).heap[w4.heap.size]? =some (.cells ((mdl s4 n 0).map Value.bool).toArray 4 (0,0))from by rw[heap_alloc_new,bCg];simp);have HB0:=kH (show Below w4.heap.size w4 (w4.alloc (.cells (Array.replicate n (.bool false)) 4))from al0);go_wp2
    go_loopg [60] (n+1) (fun g i60 wz=>∃j:Nat,j<=n/\i60= .int .i64 (j:Int)/\g+j=n+1/\Hid (wz.heap[w4.heap.size]? =some (.cells ((mdl s4 n j).map Value.bool).toArray 4 (0,0)))/\Hid (Below w4.heap.size w4 wz))
    case atStart=>exact⟨0,zBL _,rfl,rfl,HR0,HB0⟩
    case round=>
     obtain⟨j,hj,rfl,hgj,R1,R2⟩:=hrel;have Hgj:=kH hgj;clear hgj HR0 HB0;have hsz:=HQ.out.1.below R2.out
     by_cases hjn:j<n
     ·have c3:=hsz.c3;have kv:=hsz.cval (i:=j+1) (by omega);have cb:wr.cell? ⟨w4.heap.size,j,none⟩=some (.bool ((mdl s4 n j).getD j false)):=by
       rw[cell_of_row wr w4.heap.size j _ _ _ R1.out];simp[zAW,List.getD,zAB (show j<(mdl s4 n j).length by rw[aLi];exact hjn)]
      have fb:wr.frozen? ⟨w4.heap.size,j,none⟩=false:=by simp[World.frozen?,R1.out]
      have hjI:(j:Int)+1<(n:Int)+1:=by omega
      obtain⟨x,hx⟩:∃x,s4.val.getD (j+1) 0=x:=⟨_,rfl⟩;rw[hx]at kv;have HR:=kH (show(wr.setCell ⟨w4.heap.size,j,none⟩ (.bool (decide (0<x)))).heap[w4.heap.size]? =some (.cells ((mdl s4 n (j+1)).map Value.bool).toArray 4 (0,0))from by
       rw[heap_setCell_same wr w4.heap.size j _ _ _ R1.out,<-bCh s4 hjn,hx,List.map_set];simp)
      have HBw:=kH (show Below w4.heap.size w4 (wr.setCell ⟨w4.heap.size,j,none⟩ (.bool (decide (0<x))))from R2.out.setCell (p:=⟨w4.heap.size,j,none⟩) (zBJ _) _);clear hsz hx;go_wp2;have hgj:=Hgj.out
      go_roundg (gk-1)
      case measure=>omega
      case rel=>exact⟨j+1,by omega,by simp,by omega,HR,HBw⟩
     ·obtain rfl:j=n:=by omega
      go_wp2;refine bodyPost_ret (aDr rfl _ _ _) rfl ?_;refine⟨HQ.out.2.1.trans (R2.out.mono HQ.out.2.1.size), .inl ⟨some ⟨w4.heap.size,0,none⟩,_,mdl s4 j j,rfl,⟨aLi _ _ _,by omega,fun k x hk=>⟨w4.heap.size,0, .bool x,rfl,(gA R1.out).1,?_,rfl⟩⟩,aLi _ _ _,HQ.out.2.2.1.won rfl Hcc.out HQ.out.2.2.2 (aLi _ _ _) fun u hu=>?_⟩⟩
      ·rw[zBH,cell_of_row wr w4.heap.size k _ _ _ R1.out];simp[zAW,hk]
      ·unfold mdl;rw[List.getD,zAW,List.getElem?_range hu];simp[hu]
   ·have HQ:=kH (And.intro q1 (And.intro (H1.out.bl.trans (q2.mono hwm)) (And.intro q3 (And.intro q4 q5))));obtain⟨us,u1,u2⟩:=q1.lr;obtain⟨Al,cl,hlr⟩:=u1.1.form;have c1:w4.cell? ⟨Sb,1,none⟩=some (.slice Al s4.lrn.length cl):=by rw[q1.c1,hlr]
    have Hu1:=kH u1;have Hu2:=kH u2;have Hlr:=kH hlr;have Hown:=kH (show OwnAt w4 37 1 (.slice Al s4.lrn.length cl) s4.lrn.length us from by rw[<-hlr];exact u1.1);clear q1 q2 q3 q5 Hrun u1 u2 hlr
    go_wp2_with (at_builtin;go_loud (refine aAk w4 rfl (.tmp 51) (.tmp 52) 25 rfl 37 (.slice none 0 0) 24 underlying25 Tryz.sinfoInts rfl (.slice Al s4.lrn.length cl) s4.lrn.length us rfl Hown.out (.slice none 0 0) rfl 37 rfl (by omega) (by omega) ?_);intro v' w5 hown' hgr hat;obtain⟨Av,cv,hv⟩:=hown'.form;subst hv;have HL:=kH (bCf HQ.out.1 Hu1.out Hu2.out hown' (by rw[show v4.lr=_ from Hlr.out];exact hgr));have HLb:=kH (show Below W.heap.size W w5 from(HQ.out.2.1.alloc HQ.out.2.1.size _).grown hgr (by have:=HQ.out.2.1.size;simp;omega) (fun g hg=>by have h1:=Hu1.out.2 g (by rw[show v4.lr=_ from Hlr.out];exact hg);have:=(HQ.out.1.lt g _ h1).1;omega));clear hown' hgr hat)
    refine bodyPost_ret (aDr rfl _ _ _) rfl ?_;refine⟨HLb.out, .inr (.inl ⟨Av,cv,s4.lrn ++ [[]],by simp,HL.out,HQ.out.2.2.1,by simp;omega,fun k hk=>?_⟩)⟩;rcases zBE.1 hk with h | h
    ·exact HQ.out.2.2.2.2 k h
    ·rw[zBD.1 h];exact⟨rfl,zBL _⟩
   ·have HQ:=kH (And.intro q1 (And.intro (H1.out.bl.trans (q2.mono hwm)) (And.intro q3 q4)));clear q1 q2 q3 q4 Hrun;go_wp2;refine bodyPost_ret (aDr rfl _ _ _) rfl ?_;exact⟨HQ.out.2.1, .inr (.inr ⟨rfl,HQ.out.2.2.1,HQ.out.2.2.2⟩)⟩
end
end Go.Proofs.YtchdbhggbdcapaaGreat
