/- Part. -/
import Derived.Test.YtchdbhggbdcapaaGreatSuLX
import Derived.Test.YtchdbhggbdcapaaGreatSu00
import Derived.Deep.Fields
import Derived.Deep.LoopGhost
import Derived.Deep.RegionHeld3
import Derived.Laws.CopyOwn
import Derived.OpenShut
import Derived.ProofKit
set_option linter.unusedVariables false
set_option linter.unusedSimpArgs false
set_option maxRecDepth 100000
set_option maxHeartbeats 16000000
section
section
namespace Go.Proofs.YtchdbhggbdcapaaGreat
open _root_.Go.Proofs.Tryz
open Go.RowKit
theorem aCu(n:Int)(w:World)(h0:0<=n)(h1:n<=32):Calls prog 164 #[.int .i64 n] w fun e w'=>e= .returned (.int .i64 (B.pw n))/\w=w':=by
 go_enter func164,ntmps164
 go_wp2;go_ret;refine⟨aB3 ?_,rfl⟩;have e:(2:Int) ^ n.toNat=B.pw n:=rfl;have hp:=B.aBr n;have hl:=B.pw_le h1;simp only[e];exact B.aBz (by omega) (by omega)
theorem aKb(n:Int)(w:World)(h0:1<=n)(h1:n<=32):Calls prog 163 #[.int .i64 n] w fun e w'=>e= .returned (.bool true)/\w=w':=by
 go_enter func163,ntmps163
 go_wp2;go_ret;exact⟨rfl,rfl⟩
theorem aTh(n:Int)(w:World)(h:n<1\/32<n):Calls prog 163 #[.int .i64 n] w fun e w'=>e= .returned (.bool false)/\w=w':=by
 rcases h with h | h
 ·go_enter func163,ntmps163
  go_wp2;go_ret;exact⟨rfl,rfl⟩
 ·have h1:1<=n:=by omega
  have hd:decide (n<=32)=false:=by simp;omega
  go_enter func163,ntmps163
  go_wp2;go_ret;exact⟨rfl,rfl⟩
theorem bEs{n:Int}(h:B.isWd n=false):n<1\/32<n:=by
 have:¬(1<=n/\n<=32):=fun hc=>by rw[B.aBj.2 hc]at h;cases h
 omega
theorem aHj(n:Int)(w:World):Calls prog 163 #[.int .i64 n] w fun e w'=>e= .returned (.bool (B.isWd n))/\w=w':=by
 cases h:B.isWd n
 ·exact aTh n w (bEs h)
 ·have:=B.aBj.1 h;exact aKb n w this.1 this.2
theorem aCq(n a:Int)(w:World)(h0:0<=a)(h1:a<4294967296):Calls prog 121 #[.int .i64 n, .int .u32 a] w fun e w'=>e= .returned (.bool (B.isW n a))/\w=w':=by
 have H1:=kH (aHj n w);cases h:B.isWd n
 ·have hw:B.isW n a=false:=by unfold B.isW;rw[h];rfl
  rw[h]at H1;rw[hw];clear h hw
  go_enter func121,ntmps121
  go_wp2_with fail
  refine H1.out.mono ?_;rintro e w' ⟨rfl,rfl⟩;go_wp2;go_ret;exact⟨rfl,rfl⟩
 ·have hn:=B.aBj.1 h;have hw:B.isW n a=decide (a<B.pw n):=by unfold B.isW;rw[h];rfl
  rw[h]at H1;rw[hw];have H2:=kH (fun W=>aCu n W (by omega) hn.2);clear h hn hw
  go_enter func121,ntmps121
  go_wp2_with fail
  refine H1.out.mono ?_;rintro e w' ⟨rfl,rfl⟩
  go_wp2_with fail
  refine(H2.out _).mono ?_;rintro e w' ⟨rfl,rfl⟩;go_wp2;go_ret;exact⟨rfl,rfl⟩
theorem aAv(n x:Int)(w:World)(h0:1<=n)(h1:n<=32)(h2:0<=x)(h3:x<4294967296):Calls prog 167 #[.int .i64 n, .int .u32 x] w fun e w'=>e= .returned (.int .i64 (B.sg n x))/\w=w':=by
 have HA:=kH (fun W=>aCu (n-1) W (by omega) (by omega));have HB:=kH (fun W=>aCu n W (by omega) h1);have hp:=B.aBr n;have hl:=B.pw_le h1
 by_cases hc:B.pw (n-1)<=x
 ·have hs:B.sg n x=x-B.pw n:=by unfold B.sg;rw[if_pos hc]
  rw[hs];clear hs;generalize B.pw (n-1)=y at HA hc;generalize B.pw n=z at HB hp hl
  go_enter func167,ntmps167
  go_wp2_with fail
  refine(HA.out _).mono ?_;rintro e w' ⟨rfl,rfl⟩
  go_wp2_with fail
  refine(HB.out _).mono ?_;rintro e w' ⟨rfl,rfl⟩;go_wp2;go_ret;exact⟨rfl,rfl⟩
 ·have hs:B.sg n x=x:=by unfold B.sg;rw[if_neg hc]
  rw[hs];clear hs;generalize B.pw (n-1)=y at HA hc
  go_enter func167,ntmps167
  go_wp2_with fail
  refine(HA.out _).mono ?_;rintro e w' ⟨rfl,rfl⟩;go_wp2;go_ret;exact⟨rfl,rfl⟩
theorem aD2(n x:Int)(w:World)(h0:0<=n)(h1:n<=32)(h2: -9223372036854775808<=x)(h3:x<=9223372036854775807):Calls prog 168 #[.int .i64 n, .int .i64 x] w fun e w'=>e= .returned (.int .u32 (x % B.pw n))/\w=w':=by
 have HB:=kH (fun W=>aCu n W h0 h1);have hp:=B.aBr n;have hl:=B.pw_le h1;have hfix:=B.bAp x (B.pw n) hp;have hlt:=Int.emod_lt_of_pos x hp;have hge:=Int.emod_nonneg x (show B.pw n≠0 by omega);generalize B.pw n=z at HB hp hl hfix hlt hge;have hab: -z<=x.tmod z/\x.tmod z<z:=⟨by rw[<-hfix]at hge;split at hge <;> omega,by rw[<-hfix]at hlt;split at hlt <;> omega⟩
 by_cases hc:x.tmod z<0
 ·rw[if_pos hc]at hfix;rw[<-hfix];have Hfix:=kH hfix;clear hfix hge hlt
  go_enter func168,ntmps168
  go_wp2_with fail
  refine(HB.out _).mono ?_;rintro e w' ⟨rfl,rfl⟩
  go_wp2_with fail
  refine(HB.out _).mono ?_;rintro e w' ⟨rfl,rfl⟩;go_wp2;go_ret;exact⟨aB3 (by omega),rfl⟩
 ·rw[if_neg hc]at hfix;rw[<-hfix];have Hfix:=kH hfix;clear hfix hge hlt
  go_enter func168,ntmps168
  go_wp2_with fail
  refine(HB.out _).mono ?_;rintro e w' ⟨rfl,rfl⟩;go_wp2;go_ret;exact⟨aB3 (by omega),rfl⟩
theorem aRq(x k:Int)(w:World)(hk:0<=k)(hk2:k<=64)(h2: -4294967296<=x)(h3:x<=4294967296):Calls prog 206 #[.int .i64 x, .int .i64 k] w fun e w'=>e= .returned (.int .i64 (x / 2 ^ k.toNat))/\w=w':=by
 obtain⟨K,rfl⟩:∃K:Nat,k=K:=⟨k.toNat,by omega⟩
 go_enter func206,ntmps206
 go_wp2
 go_loop [0,5] (fun y i=>∃(j:Nat) (z:Int),j<=K/\i= .int .i64 (j:Int)/\y= .int .i64 z/\-4294967296<=z/\z<=4294967296/\Hid (z=x / 2 ^ j)) (fun _ i=>K- (intOf i).toNat)
 case atStart=>exact⟨0,x,zBL _,rfl,rfl,h2,h3,by show x=_;simp⟩
 case round=>
  obtain⟨j,z,hj,rfl,rfl,hz1,hz2,HZ⟩:=hrel
  by_cases hlt:j<K
  ·by_cases hneg:z<0
   ·have hstep:=B.bAq z;go_wp2
    go_round
    case rel=>exact⟨j+1,z / 2,by omega,by go_num,by rw[<-hstep],by omega,by omega,by show _=_;rw[HZ.out,B.half_step']⟩
    case measure=>simp[intOf];omega
   ·go_wp2
    go_round
    case rel=>exact⟨j+1,z / 2,by omega,by go_num,rfl,by omega,by omega,by show _=_;rw[HZ.out,B.half_step']⟩
    case measure=>simp[intOf];omega
  ·obtain rfl:j=K:=by omega
   go_wp2;go_ret;exact⟨aB3 (by rw[HZ.out]),rfl⟩
end Go.Proofs.YtchdbhggbdcapaaGreat
end
section
namespace Go.Proofs.YtchdbhggbdcapaaGreat
open _root_.Go.Proofs.Tryz
open Go.RowKit
theorem aD3{P:Program}{f:FuncId}{args:Array Value}{w:World}{n:Nat}{v:Value}
 (h:Calls P f args (w.drewN n) fun e w'=>e= .returned v/\w.drewN n=w'):Calls P f args (w.drewN n) fun e w''=>e= .returned v/\∃m,w''=w.drewN m:=
 h.mono fun _ _ ⟨he,hm⟩=>⟨he,n,hm.symm⟩
theorem aTi(n a b:Int)(w:World)(h:B.Wds n a b):Calls prog 197 #[.int .i64 8, .int .i64 n, .int .u32 a, .int .u32 b] w fun e w'=>e= .returned (.tuple #[.int .u32 ((a.toNat &&& b.toNat):Int), .bool true])/\Dr w w':=by
 obtain⟨n0,n1,a0,a1,b0,b1⟩:=h;have hl:=B.pw_le n1;have a2:a<4294967296:=by omega
 have b2:b<4294967296:=by omega
 have hfin:(a.toNat &&& b.toNat) % 2 ^ n.toNat=(a.toNat &&& b.toNat):=B.aQ2 (B.aOf a0 a1);have hX:((a.toNat &&& b.toNat):Int) < 4294967296:=by have:=B.aOf (b:=b) a0 a1;omega
 have hbit:∀j,B.bitN (a.toNat &&& b.toNat) j=B.bitN a.toNat j*B.bitN b.toNat j:=fun j=>B.bAr _ _ j
 generalize (a.toNat &&& b.toNat)=x at*;have Hfin:=kH hfin;clear hfin;have Hbit:=kH hbit;clear hbit;clear a1 b1 hl;obtain⟨N,rfl⟩:∃N:Nat,n=N:=⟨n.toNat,by omega⟩
 go_enter func197,ntmps197
 go_wp2
 go_loopw [10,11] (fun y i wr=>∃(j t:Nat),j<=N/\i= .int .i64 (j:Int)/\y= .int .i64 (t:Int)/\t<4294967296/\Dr w wr/\Hid (t=x % 2 ^ j)) (fun _ i _=>N- (intOf i).toNat)
 case atStart=>exact⟨0,0,zBL _,rfl,rfl,by omega,Dr.refl _,by show _=_;simp[Nat.mod_one]⟩
 case round=>
  obtain⟨j,t,hj,rfl,rfl,ht,hdr,HT⟩:=hrel
  by_cases hlt:j<N
  ·have HS:=kH (fun W=>aCu j W (by omega) (by omega));have hp1:=B.aBr j;have hp2:=B.aEf (n:=(j:Int)) (by omega);have hba:=B.aG2 a j a0;have hbb:=B.aG2 b j b0;have hpa:B.pw (j:Int)=2 ^ j:=rfl;rw[<-hpa]at hba hbb;have hqa:(a / B.pw (j:Int)).tmod 2=(B.bitN a.toNat j:Int):=by rw[Int.tmod_eq_emod_of_nonneg (Int.ediv_nonneg a0 (by omega)),hba]
   have hqb:(b / B.pw (j:Int)).tmod 2=(B.bitN b.toNat j:Int):=by rw[Int.tmod_eq_emod_of_nonneg (Int.ediv_nonneg b0 (by omega)),hbb]
   have la:=B.aG1 a.toNat j;have lb:=B.aG1 b.toNat j;have hx:=Hbit.out j;have hpn:(B.pw (j:Int))=((2 ^ j:Nat):Int):=by rw[hpa];simp
   clear hba hbb hpa;have Hpn:=kH hpn;clear hpn;have key:∀c:Nat,B.bitN x j=c->((x % 2 ^ (j+1):Nat):Int)=t+c*B.pw (j:Int):=by
    intro c hc;rw[B.aL6,hc,Hpn.out,<-HT.out];simp
   have tlt:∀c:Nat,c<2->(t:Int)+c*B.pw (j:Int) < 9223372036854775807:=by
    intro c hc;have:c=0\/c=1:=by omega
    rcases this with rfl | rfl <;> simp <;> omega
   have Hkey:=kH key;clear key;have xlt:x % 2 ^ (j+1) < 4294967296:=Nat.lt_of_le_of_lt (Nat.mod_le _ _) (by omega);have Htlt:=kH tlt;clear tlt;have Hxlt:=kH xlt;clear xlt;generalize B.bitN a.toNat j=P at hqa la hx;generalize B.bitN b.toNat j=Q at hqb lb hx;have hP:P=0\/P=1:=by omega
   have hQ:Q=0\/Q=1:=by omega
   clear la lb;rcases hP with rfl | rfl <;> rcases hQ with rfl | rfl
   all_goals
    have hk:=Hkey.out _ hx;have Hk:=kH hk;clear hk hx;generalize B.pw (j:Int)=z at*;go_wp2
    go_quiet ((go_at_call 164;exact aD3 (HS.out _)))
    go_wp2_with fail
    refine(HS.out _).mono ?_;rintro e w' ⟨rfl,rfl⟩;go_wp2;go_roundw
    case rel=>exact⟨j+1,x % 2 ^ (j+1),by omega,by go_num,by have h9:=Hk.out;simp at h9⊢;omega,Hxlt.out,hdr.drewN _,rfl⟩
    case measure=>simp[intOf];omega
  ·obtain rfl:j=N:=by omega
   go_wp2;go_ret2;exact⟨aAy (by have:=HT.out;have h9:=Hfin.out;rw[zBA]at h9;rw[this,h9]) rfl,hdr⟩
theorem aWj(n a b:Int)(w:World)(h:B.Wds n a b):Calls prog 197 #[.int .i64 9, .int .i64 n, .int .u32 a, .int .u32 b] w fun e w'=>e= .returned (.tuple #[.int .u32 ((a.toNat ||| b.toNat):Int), .bool true])/\Dr w w':=by
 obtain⟨n0,n1,a0,a1,b0,b1⟩:=h;have hl:=B.pw_le n1;have a2:a<4294967296:=by omega
 have b2:b<4294967296:=by omega
 have hfin:(a.toNat ||| b.toNat) % 2 ^ n.toNat=(a.toNat ||| b.toNat):=B.aQ2 (B.aQx a1 b1);have hX:((a.toNat ||| b.toNat):Int) < 4294967296:=by have:=B.aQx a1 b1;omega
 have hbit:∀j,B.bitN (a.toNat ||| b.toNat) j=max (B.bitN a.toNat j) (B.bitN b.toNat j):=fun j=>B.bDf _ _ j
 generalize (a.toNat ||| b.toNat)=x at*;have Hfin:=kH hfin;clear hfin;have Hbit:=kH hbit;clear hbit;clear a1 b1 hl;obtain⟨N,rfl⟩:∃N:Nat,n=N:=⟨n.toNat,by omega⟩
 go_enter func197,ntmps197
 go_wp2
 go_loopw [10,11] (fun y i wr=>∃(j t:Nat),j<=N/\i= .int .i64 (j:Int)/\y= .int .i64 (t:Int)/\t<4294967296/\Dr w wr/\Hid (t=x % 2 ^ j)) (fun _ i _=>N- (intOf i).toNat)
 case atStart=>exact⟨0,0,zBL _,rfl,rfl,by omega,Dr.refl _,by show _=_;simp[Nat.mod_one]⟩
 case round=>
  obtain⟨j,t,hj,rfl,rfl,ht,hdr,HT⟩:=hrel
  by_cases hlt:j<N
  ·have HS:=kH (fun W=>aCu j W (by omega) (by omega));have hp1:=B.aBr j;have hp2:=B.aEf (n:=(j:Int)) (by omega);have hba:=B.aG2 a j a0;have hbb:=B.aG2 b j b0;have hpa:B.pw (j:Int)=2 ^ j:=rfl;rw[<-hpa]at hba hbb;have hqa:(a / B.pw (j:Int)).tmod 2=(B.bitN a.toNat j:Int):=by rw[Int.tmod_eq_emod_of_nonneg (Int.ediv_nonneg a0 (by omega)),hba]
   have hqb:(b / B.pw (j:Int)).tmod 2=(B.bitN b.toNat j:Int):=by rw[Int.tmod_eq_emod_of_nonneg (Int.ediv_nonneg b0 (by omega)),hbb]
   have la:=B.aG1 a.toNat j;have lb:=B.aG1 b.toNat j;have hx:=Hbit.out j;have hpn:(B.pw (j:Int))=((2 ^ j:Nat):Int):=by rw[hpa];simp
   clear hba hbb hpa;have Hpn:=kH hpn;clear hpn;have key:∀c:Nat,B.bitN x j=c->((x % 2 ^ (j+1):Nat):Int)=t+c*B.pw (j:Int):=by
    intro c hc;rw[B.aL6,hc,Hpn.out,<-HT.out];simp
   have tlt:∀c:Nat,c<2->(t:Int)+c*B.pw (j:Int) < 9223372036854775807:=by
    intro c hc;have:c=0\/c=1:=by omega
    rcases this with rfl | rfl <;> simp <;> omega
   have Hkey:=kH key;clear key;have xlt:x % 2 ^ (j+1) < 4294967296:=Nat.lt_of_le_of_lt (Nat.mod_le _ _) (by omega);have Htlt:=kH tlt;clear tlt;have Hxlt:=kH xlt;clear xlt;generalize B.bitN a.toNat j=P at hqa la hx;generalize B.bitN b.toNat j=Q at hqb lb hx;have hP:P=0\/P=1:=by omega
   have hQ:Q=0\/Q=1:=by omega
   clear la lb;rcases hP with rfl | rfl <;> rcases hQ with rfl | rfl
   all_goals
    have hk:=Hkey.out _ hx;have Hk:=kH hk;clear hk hx;generalize B.pw (j:Int)=z at*;go_wp2
    go_quiet ((go_at_call 164;exact aD3 (HS.out _)))
    go_wp2_with fail
    refine(HS.out _).mono ?_;rintro e w' ⟨rfl,rfl⟩;go_wp2;go_roundw
    case rel=>exact⟨j+1,x % 2 ^ (j+1),by omega,by go_num,by have h9:=Hk.out;simp at h9⊢;omega,Hxlt.out,hdr.drewN _,rfl⟩
    case measure=>simp[intOf];omega
  ·obtain rfl:j=N:=by omega
   go_wp2;go_ret2;exact⟨aAy (by have:=HT.out;have h9:=Hfin.out;rw[zBA]at h9;rw[this,h9]) rfl,hdr⟩
theorem aTj(n a b:Int)(w:World)(h:B.Wds n a b):Calls prog 197 #[.int .i64 10, .int .i64 n, .int .u32 a, .int .u32 b] w fun e w'=>e= .returned (.tuple #[.int .u32 ((a.toNat ^^^ b.toNat):Int), .bool true])/\Dr w w':=by
 obtain⟨n0,n1,a0,a1,b0,b1⟩:=h;have hl:=B.pw_le n1;have a2:a<4294967296:=by omega
 have b2:b<4294967296:=by omega
 have hfin:(a.toNat ^^^ b.toNat) % 2 ^ n.toNat=(a.toNat ^^^ b.toNat):=B.aQ2 (B.aOg a1 b1);have hX:((a.toNat ^^^ b.toNat):Int) < 4294967296:=by have:=B.aOg a1 b1;omega
 have hbit:∀j,B.bitN (a.toNat ^^^ b.toNat) j=(B.bitN a.toNat j+B.bitN b.toNat j) % 2:=fun j=>B.bAs _ _ j
 generalize (a.toNat ^^^ b.toNat)=x at*;have Hfin:=kH hfin;clear hfin;have Hbit:=kH hbit;clear hbit;clear a1 b1 hl;obtain⟨N,rfl⟩:∃N:Nat,n=N:=⟨n.toNat,by omega⟩
 go_enter func197,ntmps197
 go_wp2
 go_loopw [10,11] (fun y i wr=>∃(j t:Nat),j<=N/\i= .int .i64 (j:Int)/\y= .int .i64 (t:Int)/\t<4294967296/\Dr w wr/\Hid (t=x % 2 ^ j)) (fun _ i _=>N- (intOf i).toNat)
 case atStart=>exact⟨0,0,zBL _,rfl,rfl,by omega,Dr.refl _,by show _=_;simp[Nat.mod_one]⟩
 case round=>
  obtain⟨j,t,hj,rfl,rfl,ht,hdr,HT⟩:=hrel
  by_cases hlt:j<N
  ·have HS:=kH (fun W=>aCu j W (by omega) (by omega));have hp1:=B.aBr j;have hp2:=B.aEf (n:=(j:Int)) (by omega);have hba:=B.aG2 a j a0;have hbb:=B.aG2 b j b0;have hpa:B.pw (j:Int)=2 ^ j:=rfl;rw[<-hpa]at hba hbb;have hqa:(a / B.pw (j:Int)).tmod 2=(B.bitN a.toNat j:Int):=by rw[Int.tmod_eq_emod_of_nonneg (Int.ediv_nonneg a0 (by omega)),hba]
   have hqb:(b / B.pw (j:Int)).tmod 2=(B.bitN b.toNat j:Int):=by rw[Int.tmod_eq_emod_of_nonneg (Int.ediv_nonneg b0 (by omega)),hbb]
   have la:=B.aG1 a.toNat j;have lb:=B.aG1 b.toNat j;have hx:=Hbit.out j;have hpn:(B.pw (j:Int))=((2 ^ j:Nat):Int):=by rw[hpa];simp
   clear hba hbb hpa;have Hpn:=kH hpn;clear hpn;have key:∀c:Nat,B.bitN x j=c->((x % 2 ^ (j+1):Nat):Int)=t+c*B.pw (j:Int):=by
    intro c hc;rw[B.aL6,hc,Hpn.out,<-HT.out];simp
   have tlt:∀c:Nat,c<2->(t:Int)+c*B.pw (j:Int) < 9223372036854775807:=by
    intro c hc;have:c=0\/c=1:=by omega
    rcases this with rfl | rfl <;> simp <;> omega
   have Hkey:=kH key;clear key;have xlt:x % 2 ^ (j+1) < 4294967296:=Nat.lt_of_le_of_lt (Nat.mod_le _ _) (by omega);have Htlt:=kH tlt;clear tlt;have Hxlt:=kH xlt;clear xlt;generalize B.bitN a.toNat j=P at hqa la hx;generalize B.bitN b.toNat j=Q at hqb lb hx;have hP:P=0\/P=1:=by omega
   have hQ:Q=0\/Q=1:=by omega
   clear la lb;rcases hP with rfl | rfl <;> rcases hQ with rfl | rfl
   all_goals
    have hk:=Hkey.out _ hx;have Hk:=kH hk;clear hk hx;generalize B.pw (j:Int)=z at*;go_wp2
    go_quiet ((go_at_call 164;exact aD3 (HS.out _)))
    go_wp2_with fail
    refine(HS.out _).mono ?_;rintro e w' ⟨rfl,rfl⟩;go_wp2;go_roundw
    case rel=>exact⟨j+1,x % 2 ^ (j+1),by omega,by go_num,by have h9:=Hk.out;simp at h9⊢;omega,Hxlt.out,hdr.drewN _,rfl⟩
    case measure=>simp[intOf];omega
  ·obtain rfl:j=N:=by omega
   go_wp2;go_ret2;exact⟨aAy (by have:=HT.out;have h9:=Hfin.out;rw[zBA]at h9;rw[this,h9]) rfl,hdr⟩
end Go.Proofs.YtchdbhggbdcapaaGreat
end
section
namespace Go.Proofs.YtchdbhggbdcapaaGreat
open _root_.Go.Proofs.Tryz
open Go.RowKit
theorem aH3(op n a b:Int)(w:World)(h:B.Wds n a b)(ho:op=11\/op=12\/op=13)(hb:n<=b):Calls prog 197 #[.int .i64 op, .int .i64 n, .int .u32 a, .int .u32 b] w fun e w'=>e= .returned (.tuple #[.int .u32 0, .bool false])/\Dr w w':=by
 obtain⟨n0,n1,a0,a1,b0,b1⟩:=h;have hl:=B.pw_le n1;have a2:a<4294967296:=by omega
 have b2:b<4294967296:=by omega
 clear a1 b1 hl;rcases ho with rfl | rfl | rfl
 all_goals
  go_enter func197,ntmps197
  go_wp2;go_ret2;exact⟨rfl,Dr.refl _⟩
theorem aRr(n a b:Int)(w:World)(h:B.Wds n a b)(hb:b<n):Calls prog 197 #[.int .i64 12, .int .i64 n, .int .u32 a, .int .u32 b] w fun e w'=>e= .returned (.tuple #[.int .u32 (a / B.pw b), .bool true])/\Dr w w':=by
 obtain⟨n0,n1,a0,a1,b0,b1⟩:=h;have hl:=B.pw_le n1;have a2:a<4294967296:=by omega
 have b2:b<4294967296:=by omega
 have HD:=kH (fun W=>aRq a b W b0 (by omega) (by omega) (by omega));have hpos:0<=a / B.pw b/\a / B.pw b<=a:=⟨Int.ediv_nonneg a0 (by have:=B.aBr b;omega),Int.ediv_le_self _ a0⟩;clear a1 b1 hl;have e:(2:Int) ^ b.toNat=B.pw b:=rfl;rw[e]at HD;clear e;generalize a / B.pw b=z at*
 go_enter func197,ntmps197
 go_wp2_with fail
 refine(HD.out _).mono ?_;rintro e w' ⟨rfl,rfl⟩;go_wp2;go_ret2;exact⟨aAy (by omega) rfl,Dr.refl _⟩
theorem aRs(n a b:Int)(w:World)(h:B.Wds n a b)(hb:b<n):Calls prog 197 #[.int .i64 13, .int .i64 n, .int .u32 a, .int .u32 b] w fun e w'=>e= .returned (.tuple #[.int .u32 (B.sg n a / B.pw b % B.pw n), .bool true])/\Dr w w':=by
 obtain⟨n0,n1,a0,a1,b0,b1⟩:=h;have hl:=B.pw_le n1;have a2:a<4294967296:=by omega
 have b2:b<4294967296:=by omega
 have h31:=B.aEf (show n-1<=31 by omega);have hlo:=B.sg_lo n0 a0;have hhi:=B.sg_hi n0 a1;have HS:=kH (fun W=>aAv n a W n0 n1 a0 a2);have HD:=kH (fun W=>aRq (B.sg n a) b W b0 (by omega) (by omega) (by omega));have hbd: -2147483648<=B.sg n a / B.pw b/\B.sg n a / B.pw b<=2147483648:=by
  have hp:=B.aBr b;have h1:=Int.mul_ediv_self_le (x:=B.sg n a) (k:=B.pw b) (by omega);have h2:=Int.lt_mul_ediv_self_add (x:=B.sg n a) hp;constructor
  ·rw[Int.le_ediv_iff_mul_le hp];have: -2147483648*B.pw b<=-2147483648*1:=Int.mul_le_mul_of_nonpos_left (by omega) (by omega);omega
  ·by_cases hneg:B.sg n a<0
   ·have:=Int.ediv_neg_of_neg_of_pos hneg hp;omega
   ·have:=Int.ediv_le_self (B.pw b) (show 0<=B.sg n a by omega);omega
 have HW:=kH (fun W=>aD2 n (B.sg n a / B.pw b) W (by omega) n1 (by omega) (by omega));clear a1 b1 hl h31 hlo hhi;have e:(2:Int) ^ b.toNat=B.pw b:=rfl;rw[e]at HD;clear e;generalize B.sg n a / B.pw b=z at*
 go_enter func197,ntmps197
 go_wp2_with fail
 refine(HS.out _).mono ?_;rintro e w' ⟨rfl,rfl⟩
 go_wp2_with fail
 refine(HD.out _).mono ?_;rintro e w' ⟨rfl,rfl⟩
 go_wp2_with fail
 refine(HW.out _).mono ?_;rintro e w' ⟨rfl,rfl⟩;go_wp2;go_ret2;exact⟨rfl,Dr.refl _⟩
theorem aTk(n a b:Int)(w:World)(h:B.Wds n a b)(hb:b<n):Calls prog 197 #[.int .i64 11, .int .i64 n, .int .u32 a, .int .u32 b] w fun e w'=>e= .returned (.tuple #[.int .u32 (a*B.pw b % B.pw n), .bool true])/\Dr w w':=by
 obtain⟨n0,n1,a0,a1,b0,b1⟩:=h;have hl:=B.pw_le n1;have a2:a<4294967296:=by omega
 have b2:b<4294967296:=by omega
 have hp:=B.aBr n;have hst:a=a*2 ^ 0 % B.pw n:=by rw[Int.pow_zero,Int.mul_one,Int.emod_eq_of_lt a0 a1]
 have HS:=kH (fun W=>aCu n W (by omega) n1);have hdbl:∀j,2* (a*2 ^ j % B.pw n) % B.pw n=a*2 ^ (j+1) % B.pw n:=fun j=>B.bAt a (B.pw n) j
 have hb32:b<=32:=by omega
 have hfin:a*B.pw b % B.pw n=a*2 ^ b.toNat % B.pw n:=rfl;rw[hfin];clear a1 b1 hfin;obtain⟨z,hz⟩:∃z,z=B.pw n:=⟨_,rfl⟩;rw[<-hz]at HS hp hl hst hdbl⊢;clear hz;obtain⟨R,hR⟩:∃R,R=a*2 ^ b.toNat % z:=⟨_,rfl⟩;rw[<-hR];have HR:=kH hR;clear hR;have Hdbl:=kH hdbl;clear hdbl;have Hst:=kH hst;clear hst
 go_enter func197,ntmps197
 go_wp2
 go_loop [16,17] (fun y i=>∃(j:Nat) (t:Int),(j:Int)<=b/\i= .int .i64 (j:Int)/\y= .int .i64 t/\0<=t/\t<4294967296/\Hid (t=a*2 ^ j % z)) (fun _ i=>b.toNat- (intOf i).toNat)
 case atStart=>exact⟨0,a,by omega,rfl,rfl,a0,a2,Hst.out⟩
 case round=>
  obtain⟨j,t,hj,rfl,rfl,ht0,ht1,HT⟩:=hrel
  by_cases hlt:(j:Int) < b
  ·have hr0:0<=2*t % z:=Int.emod_nonneg _ (by omega);have hr1:2*t % z<z:=Int.emod_lt_of_pos _ hp
   go_wp2_with fail
   refine(HS.out _).mono ?_;rintro e w' ⟨rfl,rfl⟩;go_wp2
   go_round
   case rel=>exact⟨j+1,2*t % z,by omega,by go_num,rfl,hr0,by omega,by show _=_;rw[HT.out,Hdbl.out]⟩
   case measure=>simp[intOf];omega
  ·have hjb:j=b.toNat:=by omega
   have Hjb:=kH hjb;clear hjb;go_wp2;go_ret2;exact⟨aAy (by have h1:=HT.out;have h2:=HR.out;rw[Hjb.out]at h1;omega) rfl,Dr.refl _⟩
end Go.Proofs.YtchdbhggbdcapaaGreat
end
section
namespace Go.Proofs.YtchdbhggbdcapaaGreat
open _root_.Go.Proofs.Tryz
open Go.RowKit
def RDoes(k:Int):Prop:=∀(n a b:Int) (w:World),B.Wds n a b->
 Calls prog 170 #[.int .i64 k, .int .i64 n, .int .u32 a, .int .u32 b] w fun e w'=>e= .returned (.tuple #[.int .u32 ((B.do_ k n a b).getD 0), .bool (B.has k n a b)])/\Dr w w'
theorem aIn{n a b:Int}(h:B.Wds n a b): -2147483648<=B.sg n a/\B.sg n a<2147483648/\-2147483648<=B.sg n b/\B.sg n b<2147483648:=by
 obtain⟨n0,n1,a0,a1,b0,b1⟩:=h;have h3:=B.aEf (show n-1<=31 by omega);have:=B.sg_lo n0 a0;have:=B.sg_hi n0 a1;have:=B.sg_lo n0 b0;have:=B.sg_hi n0 b1;omega
theorem bEt:RDoes 1:=by
 intro n a b w h;obtain⟨n0,n1,a0,a1,b0,b1⟩:=h;have hl:=B.pw_le n1;have a2:a<4294967296:=by omega
 have b2:b<4294967296:=by omega
 have HS:=kH (fun W=>aAv n a W n0 n1 a0 a2);have HT:=kH (fun W=>aAv n b W n0 n1 b0 b2);have HW:=kH (fun W=>aD2 n (a+b) W (by omega) n1 (by omega) (by omega));have Hx:=kH (B.do_1 n a b);clear a1 b1 hl;generalize (a+b) % B.pw n=z at HW Hx
 go_enter func170,ntmps170
 go_wp2_with fail
 refine(HS.out _).mono ?_;rintro e w' ⟨rfl,rfl⟩
 go_wp2_with fail
 refine(HT.out _).mono ?_;rintro e w' ⟨rfl,rfl⟩
 go_wp2_with fail
 refine(HW.out _).mono ?_;rintro e w' ⟨rfl,rfl⟩;go_wp2;go_ret2;exact⟨aAy (by rw[Hx.out];rfl) (by rw[B.has,Hx.out];rfl),Dr.refl _⟩
theorem bEu:RDoes 2:=by
 intro n a b w h;obtain⟨n0,n1,a0,a1,b0,b1⟩:=h;have hl:=B.pw_le n1;have a2:a<4294967296:=by omega
 have b2:b<4294967296:=by omega
 have HS:=kH (fun W=>aAv n a W n0 n1 a0 a2);have HT:=kH (fun W=>aAv n b W n0 n1 b0 b2);have HW:=kH (fun W=>aD2 n (a-b) W (by omega) n1 (by omega) (by omega));have Hx:=kH (B.do_2 n a b);clear a1 b1 hl;generalize (a-b) % B.pw n=z at HW Hx
 go_enter func170,ntmps170
 go_wp2_with fail
 refine(HS.out _).mono ?_;rintro e w' ⟨rfl,rfl⟩
 go_wp2_with fail
 refine(HT.out _).mono ?_;rintro e w' ⟨rfl,rfl⟩
 go_wp2_with fail
 refine(HW.out _).mono ?_;rintro e w' ⟨rfl,rfl⟩;go_wp2;go_ret2;exact⟨aAy (by rw[Hx.out];rfl) (by rw[B.has,Hx.out];rfl),Dr.refl _⟩
theorem aYs{x y:Int}(h1: -2147483648<=x)(h2:x<2147483648)(h3: -2147483648<=y)(h4:y<2147483648): -4611686018427387904<=x*y/\x*y<=4611686018427387904:=by
 have h:(x*y).natAbs<=2147483648*2147483648:=by
  rw[Int.natAbs_mul];exact Nat.mul_le_mul (by omega) (by omega)
 omega
theorem bEv:RDoes 3:=by
 intro n a b w h;have hbd:=aIn h;obtain⟨n0,n1,a0,a1,b0,b1⟩:=h;have hl:=B.pw_le n1;have a2:a<4294967296:=by omega
 have b2:b<4294967296:=by omega
 have hm:=aYs hbd.1 hbd.2.1 hbd.2.2.1 hbd.2.2.2;have HS:=kH (fun W=>aAv n a W n0 n1 a0 a2);have HT:=kH (fun W=>aAv n b W n0 n1 b0 b2);have HW:=kH (fun W=>aD2 n (B.sg n a*B.sg n b) W (by omega) n1 (by omega) (by omega));have hmod:B.sg n a*B.sg n b % B.pw n=a*b % B.pw n:=by rw[Int.mul_emod,B.aQw,B.aQw,<-Int.mul_emod]
 have hx:=B.do_3 n a b;rw[<-hmod]at hx;have Hx:=kH hx;clear hx hmod;clear a1 b1 hl hbd;have hw:wrap64 (B.sg n a*B.sg n b)=B.sg n a*B.sg n b:=B.aBz (by omega) (by omega);clear hm;generalize B.sg n a*B.sg n b % B.pw n=z at HW Hx
 go_enter func170,ntmps170
 go_wp2_with fail
 refine(HS.out _).mono ?_;rintro e w' ⟨rfl,rfl⟩
 go_wp2_with fail
 refine(HT.out _).mono ?_;rintro e w' ⟨rfl,rfl⟩
 go_wp2_with fail
 refine(HW.out _).mono ?_;rintro e w' ⟨rfl,rfl⟩;go_wp2;go_ret2;exact⟨aAy (by rw[Hx.out];rfl) (by rw[B.has,Hx.out];rfl),Dr.refl _⟩
theorem bEw:RDoes 4:=by
 intro n a b w h;obtain⟨n0,n1,a0,a1,b0,b1⟩:=h;have hl:=B.pw_le n1;have a2:a<4294967296:=by omega
 have b2:b<4294967296:=by omega
 have HS:=kH (fun W=>aAv n a W n0 n1 a0 a2);have HT:=kH (fun W=>aAv n b W n0 n1 b0 b2);have hx:=B.do_4 n a b
 by_cases hb:b=0
 ·rw[if_pos hb]at hx;have hs:(b == 0)=true:=by simpa using hb
  have Hx:=kH hx;clear hx hb a1 b1 hl
  go_enter func170,ntmps170
  go_wp2_with fail
  refine(HS.out _).mono ?_;rintro e w' ⟨rfl,rfl⟩
  go_wp2_with fail
  refine(HT.out _).mono ?_;rintro e w' ⟨rfl,rfl⟩;go_wp2;go_ret2;exact⟨aAy (by rw[Hx.out];rfl) (by rw[B.has,Hx.out];rfl),Dr.refl _⟩
 ·rw[if_neg hb]at hx;have hs:(b == 0)=false:=by simpa using hb
  have hb1:1<=b:=by omega
  have Hx:=kH hx;clear hx hb a1 b1 hl
  go_enter func170,ntmps170
  go_wp2_with fail
  refine(HS.out _).mono ?_;rintro e w' ⟨rfl,rfl⟩
  go_wp2_with fail
  refine(HT.out _).mono ?_;rintro e w' ⟨rfl,rfl⟩;go_wp2;go_ret2;exact⟨aAy (by rw[Hx.out];rfl) (by rw[B.has,Hx.out];rfl),Dr.refl _⟩
theorem bEx:RDoes 5:=by
 intro n a b w h;obtain⟨n0,n1,a0,a1,b0,b1⟩:=h;have hl:=B.pw_le n1;have a2:a<4294967296:=by omega
 have b2:b<4294967296:=by omega
 have HS:=kH (fun W=>aAv n a W n0 n1 a0 a2);have HT:=kH (fun W=>aAv n b W n0 n1 b0 b2);have hx:=B.do_5 n a b
 by_cases hb:b=0
 ·rw[if_pos hb]at hx;have hs:(b == 0)=true:=by simpa using hb
  have Hx:=kH hx;clear hx hb a1 b1 hl
  go_enter func170,ntmps170
  go_wp2_with fail
  refine(HS.out _).mono ?_;rintro e w' ⟨rfl,rfl⟩
  go_wp2_with fail
  refine(HT.out _).mono ?_;rintro e w' ⟨rfl,rfl⟩;go_wp2;go_ret2;exact⟨aAy (by rw[Hx.out];rfl) (by rw[B.has,Hx.out];rfl),Dr.refl _⟩
 ·rw[if_neg hb]at hx;have hs:(b == 0)=false:=by simpa using hb
  have hb1:1<=b:=by omega
  have hq0:0<=a / b*b:=Int.mul_nonneg (Int.ediv_nonneg a0 b0) b0;have hq1:a / b*b<=a:=Int.ediv_mul_le a hb;have he:a % b=a-a / b*b:=by have:=Int.mul_ediv_add_emod a b;rw[Int.mul_comm]at this;omega
  rw[he]at hx;have hmodq:a / b*b % 4294967296=a / b*b:=Int.emod_eq_of_lt hq0 (by omega);have hmodr:(a-a / b*b) % 4294967296=a-a / b*b:=Int.emod_eq_of_lt (by omega) (by omega);have Hx:=kH hx;have Hm:=kH hmodr;clear hx he hb a1 b1 hl hq0 hq1 hmodr
  go_enter func170,ntmps170
  go_wp2_with fail
  refine(HS.out _).mono ?_;rintro e w' ⟨rfl,rfl⟩
  go_wp2_with fail
  refine(HT.out _).mono ?_;rintro e w' ⟨rfl,rfl⟩;go_wp2;go_ret2;exact⟨aAy (by rw[Hx.out];exact Hm.out) (by rw[B.has,Hx.out];rfl),Dr.refl _⟩
theorem aNe{n a b:Int}(h:B.Wds n a b)(hq:¬(b=0\/(B.sg n a= -B.pw (n-1)/\B.sg n b= -1))):
 B.sg n b≠0/\-2147483648<=(B.sg n a).tdiv (B.sg n b)/\(B.sg n a).tdiv (B.sg n b)<=2147483648/\-2147483648<=(B.sg n a).tmod (B.sg n b)/\(B.sg n a).tmod (B.sg n b)<=2147483648/\
 B.sg n a- (B.sg n a).tdiv (B.sg n b)*B.sg n b=(B.sg n a).tmod (B.sg n b)/\-4294967296<=(B.sg n a).tdiv (B.sg n b)*B.sg n b/\(B.sg n a).tdiv (B.sg n b)*B.sg n b<=4294967296:=by
 have hbd:=aIn h;obtain⟨n0,n1,a0,a1,b0,b1⟩:=h;have hz:=B.aH8 n0 b0 b1;have bd:=B.aM1 (B.sg n a) (B.sg n b);have bm:=B.aM2 (B.sg n a) (B.sg n b);have e:B.sg n a- (B.sg n a).tdiv (B.sg n b)*B.sg n b=(B.sg n a).tmod (B.sg n b):=by
  have:=Int.mul_tdiv_add_tmod (B.sg n a) (B.sg n b);rw[Int.mul_comm]at this;omega
 exact⟨fun h=>hq (.inl (hz.1 h)),by omega,by omega,by omega,by omega,e,by omega,by omega⟩
theorem bEy:RDoes 6:=by
 intro n a b w h;have h9:=h;have hbd:=aIn h;obtain⟨n0,n1,a0,a1,b0,b1⟩:=h;have hl:=B.pw_le n1;have a2:a<4294967296:=by omega
 have b2:b<4294967296:=by omega
 have HS:=kH (fun W=>aAv n a W n0 n1 a0 a2);have HT:=kH (fun W=>aAv n b W n0 n1 b0 b2);have HZ:=kH (fun W=>aCu (n-1) W (by omega) (by omega));have h3:=B.aEf (show n-1<=31 by omega);have h4:=B.aBr (n-1);have hx:=B.do_6 n a b
 by_cases hq:b=0\/(B.sg n a= -B.pw (n-1)/\B.sg n b= -1)
 ·rw[if_pos hq]at hx;have Hx:=kH hx;clear hx
  by_cases hb:b=0
  ·have hs:(b == 0)=true:=by simpa using hb
   clear hq hb a1 b1 hl hbd h3 h4
   go_enter func170,ntmps170
   go_wp2_with fail
   refine(HS.out _).mono ?_;rintro e w' ⟨rfl,rfl⟩
   go_wp2_with fail
   refine(HT.out _).mono ?_;rintro e w' ⟨rfl,rfl⟩;go_wp2;go_ret2;exact⟨aAy (by rw[Hx.out];rfl) (by rw[B.has,Hx.out];rfl),Dr.refl _⟩
  ·have hs:(b == 0)=false:=by simpa using hb
   obtain⟨q1,q2⟩:=hq.resolve_left hb;have hs2:(B.sg n b == -1)=true:=by rw[q2];rfl
   have hs3:(B.sg n a == -B.pw (n-1))=true:=by rw[q1];simp
   clear hq hb a1 b1 hl q1 q2 hbd;generalize B.pw (n-1)=z at*
   go_enter func170,ntmps170
   go_wp2_with fail
   refine(HS.out _).mono ?_;rintro e w' ⟨rfl,rfl⟩
   go_wp2_with fail
   refine(HT.out _).mono ?_;rintro e w' ⟨rfl,rfl⟩
   go_wp2_with fail
   refine(HZ.out _).mono ?_;rintro e w' ⟨rfl,rfl⟩;go_wp2;go_ret2;exact⟨aAy (by rw[Hx.out];rfl) (by rw[B.has,Hx.out];rfl),Dr.refl _⟩
 ·rw[if_neg hq]at hx;obtain⟨f1,f2,f3,f4,f5,f6,f7,f8⟩:=aNe h9 hq;have HW:=kH (fun W=>aD2 n ((B.sg n a).tdiv (B.sg n b)) W (by omega) n1 (by omega) (by omega));have hs:(b == 0)=false:=by simpa using fun h=>hq (.inl h)
  have hz:(B.sg n b == 0)=false:=by simpa using f1
  have hw:wrap64 ((B.sg n a).tdiv (B.sg n b))=(B.sg n a).tdiv (B.sg n b):=B.aBz (by omega) (by omega);have Hx:=kH hx;clear hx;have Hq:=kH hq;clear hq a1 b1 hl h9 f2 f3 f4 f5 f6 f7 f8;generalize (B.sg n a).tdiv (B.sg n b) % B.pw n=R at HW Hx
  by_cases hs3:B.sg n a= -B.pw (n-1)
  ·have hs4:(B.sg n b == -1)=false:=by simpa using fun h=>Hq.out (.inr ⟨hs3,h⟩)
   have hs5:(B.sg n a == -B.pw (n-1))=true:=by rw[hs3];simp
   clear hs3 Hq hbd;generalize B.pw (n-1)=z at*
   go_enter func170,ntmps170
   go_wp2_with fail
   refine(HS.out _).mono ?_;rintro e w' ⟨rfl,rfl⟩
   go_wp2_with fail
   refine(HT.out _).mono ?_;rintro e w' ⟨rfl,rfl⟩
   go_wp2_with fail
   refine(HZ.out _).mono ?_;rintro e w' ⟨rfl,rfl⟩
   go_wp2_with fail
   refine(HW.out _).mono ?_;rintro e w' ⟨rfl,rfl⟩;go_wp2;go_ret2;exact⟨aAy (by rw[Hx.out];rfl) (by rw[B.has,Hx.out];rfl),Dr.refl _⟩
  ·have hs5:(B.sg n a == -B.pw (n-1))=false:=by simpa using hs3
   clear hs3 Hq hbd;generalize B.pw (n-1)=z at*
   go_enter func170,ntmps170
   go_wp2_with fail
   refine(HS.out _).mono ?_;rintro e w' ⟨rfl,rfl⟩
   go_wp2_with fail
   refine(HT.out _).mono ?_;rintro e w' ⟨rfl,rfl⟩
   go_wp2_with fail
   refine(HZ.out _).mono ?_;rintro e w' ⟨rfl,rfl⟩
   go_wp2_with fail
   refine(HW.out _).mono ?_;rintro e w' ⟨rfl,rfl⟩;go_wp2;go_ret2;exact⟨aAy (by rw[Hx.out];rfl) (by rw[B.has,Hx.out];rfl),Dr.refl _⟩
end Go.Proofs.YtchdbhggbdcapaaGreat
end
section
namespace Go.Proofs.YtchdbhggbdcapaaGreat
open _root_.Go.Proofs.Tryz
open Go.RowKit
theorem bEz:RDoes 7:=by
 intro n a b w h;have h9:=h;have hbd:=aIn h;obtain⟨n0,n1,a0,a1,b0,b1⟩:=h;have hl:=B.pw_le n1;have a2:a<4294967296:=by omega
 have b2:b<4294967296:=by omega
 have HS:=kH (fun W=>aAv n a W n0 n1 a0 a2);have HT:=kH (fun W=>aAv n b W n0 n1 b0 b2);have HZ:=kH (fun W=>aCu (n-1) W (by omega) (by omega));have h3:=B.aEf (show n-1<=31 by omega);have h4:=B.aBr (n-1);have hx:=B.do_7 n a b
 by_cases hq:b=0\/(B.sg n a= -B.pw (n-1)/\B.sg n b= -1)
 ·rw[if_pos hq]at hx;have Hx:=kH hx;clear hx
  by_cases hb:b=0
  ·have hs:(b == 0)=true:=by simpa using hb
   clear hq hb a1 b1 hl hbd h3 h4
   go_enter func170,ntmps170
   go_wp2_with fail
   refine(HS.out _).mono ?_;rintro e w' ⟨rfl,rfl⟩
   go_wp2_with fail
   refine(HT.out _).mono ?_;rintro e w' ⟨rfl,rfl⟩;go_wp2;go_ret2;exact⟨aAy (by rw[Hx.out];rfl) (by rw[B.has,Hx.out];rfl),Dr.refl _⟩
  ·have hs:(b == 0)=false:=by simpa using hb
   obtain⟨q1,q2⟩:=hq.resolve_left hb;have hs2:(B.sg n b == -1)=true:=by rw[q2];rfl
   have hs3:(B.sg n a == -B.pw (n-1))=true:=by rw[q1];simp
   clear hq hb a1 b1 hl q1 q2 hbd;generalize B.pw (n-1)=z at*
   go_enter func170,ntmps170
   go_wp2_with fail
   refine(HS.out _).mono ?_;rintro e w' ⟨rfl,rfl⟩
   go_wp2_with fail
   refine(HT.out _).mono ?_;rintro e w' ⟨rfl,rfl⟩
   go_wp2_with fail
   refine(HZ.out _).mono ?_;rintro e w' ⟨rfl,rfl⟩;go_wp2;go_ret2;exact⟨aAy (by rw[Hx.out];rfl) (by rw[B.has,Hx.out];rfl),Dr.refl _⟩
 ·rw[if_neg hq]at hx;obtain⟨f1,f2,f3,f4,f5,f6,f7,f8⟩:=aNe h9 hq;have HW:=kH (fun W=>aD2 n ((B.sg n a).tmod (B.sg n b)) W (by omega) n1 (by omega) (by omega));have hs:(b == 0)=false:=by simpa using fun h=>hq (.inl h)
  have hz:(B.sg n b == 0)=false:=by simpa using f1
  have hw:wrap64 ((B.sg n a).tdiv (B.sg n b))=(B.sg n a).tdiv (B.sg n b):=B.aBz (by omega) (by omega);have Hx:=kH hx;clear hx;have Hq:=kH hq;clear hq a1 b1 hl h9 f4 f5;generalize (B.sg n a).tmod (B.sg n b) % B.pw n=R at HW Hx
  by_cases hs3:B.sg n a= -B.pw (n-1)
  ·have hs4:(B.sg n b == -1)=false:=by simpa using fun h=>Hq.out (.inr ⟨hs3,h⟩)
   have hs5:(B.sg n a == -B.pw (n-1))=true:=by rw[hs3];simp
   clear hs3 Hq;generalize B.pw (n-1)=z at*
   go_enter func170,ntmps170
   go_wp2_with fail
   refine(HS.out _).mono ?_;rintro e w' ⟨rfl,rfl⟩
   go_wp2_with fail
   refine(HT.out _).mono ?_;rintro e w' ⟨rfl,rfl⟩
   go_wp2_with fail
   refine(HZ.out _).mono ?_;rintro e w' ⟨rfl,rfl⟩
   go_wp2_with fail
   refine(HW.out _).mono ?_;rintro e w' ⟨rfl,rfl⟩;go_wp2;go_ret2;exact⟨aAy (by rw[Hx.out];rfl) (by rw[B.has,Hx.out];rfl),Dr.refl _⟩
  ·have hs5:(B.sg n a == -B.pw (n-1))=false:=by simpa using hs3
   clear hs3 Hq;generalize B.pw (n-1)=z at*
   go_enter func170,ntmps170
   go_wp2_with fail
   refine(HS.out _).mono ?_;rintro e w' ⟨rfl,rfl⟩
   go_wp2_with fail
   refine(HT.out _).mono ?_;rintro e w' ⟨rfl,rfl⟩
   go_wp2_with fail
   refine(HZ.out _).mono ?_;rintro e w' ⟨rfl,rfl⟩
   go_wp2_with fail
   refine(HW.out _).mono ?_;rintro e w' ⟨rfl,rfl⟩;go_wp2;go_ret2;exact⟨aAy (by rw[Hx.out];rfl) (by rw[B.has,Hx.out];rfl),Dr.refl _⟩
theorem bE0:RDoes 8:=by
 intro n a b w h;have h9:=h;obtain⟨n0,n1,a0,a1,b0,b1⟩:=h;have hl:=B.pw_le n1;have a2:a<4294967296:=by omega
 have b2:b<4294967296:=by omega
 have HS:=kH (fun W=>aAv n a W n0 n1 a0 a2);have HT:=kH (fun W=>aAv n b W n0 n1 b0 b2);obtain⟨z,ok,hz,hcon⟩:∃z ok,B.do_ 8 n a b=(if ok then some z else none)/\∀W,Calls prog 197 #[.int .i64 8, .int .i64 n, .int .u32 a, .int .u32 b] W fun e w'=>e= .returned (.tuple #[.int .u32 (if ok then z else 0), .bool ok])/\Dr W w':=by
  exact⟨_,true,B.do_8 n a b,fun W=>aTi n a b W h9⟩
 have Hx:=kH hz;have HW:=kH hcon;clear hz hcon h9 a1 b1 hl;obtain⟨Z,hZ⟩:∃Z,Z=(if ok=true then z else 0):=⟨_,rfl⟩;rw[<-hZ]at HW;have HZ:=kH hZ;clear hZ
 go_enter func170,ntmps170
 go_wp2_with fail
 refine(HS.out _).mono ?_;rintro e w' ⟨rfl,rfl⟩
 go_wp2_with fail
 refine(HT.out _).mono ?_;rintro e w' ⟨rfl,rfl⟩
 go_wp2_with fail
 refine(HW.out _).mono ?_;rintro e w2 ⟨rfl,hd⟩;go_wp2;go_ret2;exact⟨aAy (by rw[Hx.out];rw[HZ.out];cases ok <;> rfl) (by rw[B.has,Hx.out];cases ok <;> rfl),hd⟩
theorem bE1:RDoes 9:=by
 intro n a b w h;have h9:=h;obtain⟨n0,n1,a0,a1,b0,b1⟩:=h;have hl:=B.pw_le n1;have a2:a<4294967296:=by omega
 have b2:b<4294967296:=by omega
 have HS:=kH (fun W=>aAv n a W n0 n1 a0 a2);have HT:=kH (fun W=>aAv n b W n0 n1 b0 b2);obtain⟨z,ok,hz,hcon⟩:∃z ok,B.do_ 9 n a b=(if ok then some z else none)/\∀W,Calls prog 197 #[.int .i64 9, .int .i64 n, .int .u32 a, .int .u32 b] W fun e w'=>e= .returned (.tuple #[.int .u32 (if ok then z else 0), .bool ok])/\Dr W w':=by
  exact⟨_,true,B.do_9 n a b,fun W=>aWj n a b W h9⟩
 have Hx:=kH hz;have HW:=kH hcon;clear hz hcon h9 a1 b1 hl;obtain⟨Z,hZ⟩:∃Z,Z=(if ok=true then z else 0):=⟨_,rfl⟩;rw[<-hZ]at HW;have HZ:=kH hZ;clear hZ
 go_enter func170,ntmps170
 go_wp2_with fail
 refine(HS.out _).mono ?_;rintro e w' ⟨rfl,rfl⟩
 go_wp2_with fail
 refine(HT.out _).mono ?_;rintro e w' ⟨rfl,rfl⟩
 go_wp2_with fail
 refine(HW.out _).mono ?_;rintro e w2 ⟨rfl,hd⟩;go_wp2;go_ret2;exact⟨aAy (by rw[Hx.out];rw[HZ.out];cases ok <;> rfl) (by rw[B.has,Hx.out];cases ok <;> rfl),hd⟩
theorem bDo:RDoes 10:=by
 intro n a b w h;have h9:=h;obtain⟨n0,n1,a0,a1,b0,b1⟩:=h;have hl:=B.pw_le n1;have a2:a<4294967296:=by omega
 have b2:b<4294967296:=by omega
 have HS:=kH (fun W=>aAv n a W n0 n1 a0 a2);have HT:=kH (fun W=>aAv n b W n0 n1 b0 b2);obtain⟨z,ok,hz,hcon⟩:∃z ok,B.do_ 10 n a b=(if ok then some z else none)/\∀W,Calls prog 197 #[.int .i64 10, .int .i64 n, .int .u32 a, .int .u32 b] W fun e w'=>e= .returned (.tuple #[.int .u32 (if ok then z else 0), .bool ok])/\Dr W w':=by
  exact⟨_,true,B.do_10 n a b,fun W=>aTj n a b W h9⟩
 have Hx:=kH hz;have HW:=kH hcon;clear hz hcon h9 a1 b1 hl;obtain⟨Z,hZ⟩:∃Z,Z=(if ok=true then z else 0):=⟨_,rfl⟩;rw[<-hZ]at HW;have HZ:=kH hZ;clear hZ
 go_enter func170,ntmps170
 go_wp2_with fail
 refine(HS.out _).mono ?_;rintro e w' ⟨rfl,rfl⟩
 go_wp2_with fail
 refine(HT.out _).mono ?_;rintro e w' ⟨rfl,rfl⟩
 go_wp2_with fail
 refine(HW.out _).mono ?_;rintro e w2 ⟨rfl,hd⟩;go_wp2;go_ret2;exact⟨aAy (by rw[Hx.out];rw[HZ.out];cases ok <;> rfl) (by rw[B.has,Hx.out];cases ok <;> rfl),hd⟩
theorem bDp:RDoes 11:=by
 intro n a b w h;have h9:=h;obtain⟨n0,n1,a0,a1,b0,b1⟩:=h;have hl:=B.pw_le n1;have a2:a<4294967296:=by omega
 have b2:b<4294967296:=by omega
 have HS:=kH (fun W=>aAv n a W n0 n1 a0 a2);have HT:=kH (fun W=>aAv n b W n0 n1 b0 b2);obtain⟨z,ok,hz,hcon⟩:∃z ok,B.do_ 11 n a b=(if ok then some z else none)/\∀W,Calls prog 197 #[.int .i64 11, .int .i64 n, .int .u32 a, .int .u32 b] W fun e w'=>e= .returned (.tuple #[.int .u32 (if ok then z else 0), .bool ok])/\Dr W w':=by
  by_cases hb:n<=b
  ·exact⟨0,false,by rw[B.do_11,if_pos hb];rfl,fun W=>aH3 11 n a b W h9 (Or.inl rfl) hb⟩
  ·exact⟨_,true,by rw[B.do_11,if_neg hb];rfl,fun W=>aTk n a b W h9 (by omega)⟩
 have Hx:=kH hz;have HW:=kH hcon;clear hz hcon h9 a1 b1 hl;obtain⟨Z,hZ⟩:∃Z,Z=(if ok=true then z else 0):=⟨_,rfl⟩;rw[<-hZ]at HW;have HZ:=kH hZ;clear hZ
 go_enter func170,ntmps170
 go_wp2_with fail
 refine(HS.out _).mono ?_;rintro e w' ⟨rfl,rfl⟩
 go_wp2_with fail
 refine(HT.out _).mono ?_;rintro e w' ⟨rfl,rfl⟩
 go_wp2_with fail
 refine(HW.out _).mono ?_;rintro e w2 ⟨rfl,hd⟩;go_wp2;go_ret2;exact⟨aAy (by rw[Hx.out];rw[HZ.out];cases ok <;> rfl) (by rw[B.has,Hx.out];cases ok <;> rfl),hd⟩
theorem bDq:RDoes 12:=by
 intro n a b w h;have h9:=h;obtain⟨n0,n1,a0,a1,b0,b1⟩:=h;have hl:=B.pw_le n1;have a2:a<4294967296:=by omega
 have b2:b<4294967296:=by omega
 have HS:=kH (fun W=>aAv n a W n0 n1 a0 a2);have HT:=kH (fun W=>aAv n b W n0 n1 b0 b2);obtain⟨z,ok,hz,hcon⟩:∃z ok,B.do_ 12 n a b=(if ok then some z else none)/\∀W,Calls prog 197 #[.int .i64 12, .int .i64 n, .int .u32 a, .int .u32 b] W fun e w'=>e= .returned (.tuple #[.int .u32 (if ok then z else 0), .bool ok])/\Dr W w':=by
  by_cases hb:n<=b
  ·exact⟨0,false,by rw[B.do_12,if_pos hb];rfl,fun W=>aH3 12 n a b W h9 (Or.inr (Or.inl rfl)) hb⟩
  ·exact⟨_,true,by rw[B.do_12,if_neg hb];rfl,fun W=>aRr n a b W h9 (by omega)⟩
 have Hx:=kH hz;have HW:=kH hcon;clear hz hcon h9 a1 b1 hl;obtain⟨Z,hZ⟩:∃Z,Z=(if ok=true then z else 0):=⟨_,rfl⟩;rw[<-hZ]at HW;have HZ:=kH hZ;clear hZ
 go_enter func170,ntmps170
 go_wp2_with fail
 refine(HS.out _).mono ?_;rintro e w' ⟨rfl,rfl⟩
 go_wp2_with fail
 refine(HT.out _).mono ?_;rintro e w' ⟨rfl,rfl⟩
 go_wp2_with fail
 refine(HW.out _).mono ?_;rintro e w2 ⟨rfl,hd⟩;go_wp2;go_ret2;exact⟨aAy (by rw[Hx.out];rw[HZ.out];cases ok <;> rfl) (by rw[B.has,Hx.out];cases ok <;> rfl),hd⟩
theorem bDr:RDoes 13:=by
 intro n a b w h;have h9:=h;obtain⟨n0,n1,a0,a1,b0,b1⟩:=h;have hl:=B.pw_le n1;have a2:a<4294967296:=by omega
 have b2:b<4294967296:=by omega
 have HS:=kH (fun W=>aAv n a W n0 n1 a0 a2);have HT:=kH (fun W=>aAv n b W n0 n1 b0 b2);obtain⟨z,ok,hz,hcon⟩:∃z ok,B.do_ 13 n a b=(if ok then some z else none)/\∀W,Calls prog 197 #[.int .i64 13, .int .i64 n, .int .u32 a, .int .u32 b] W fun e w'=>e= .returned (.tuple #[.int .u32 (if ok then z else 0), .bool ok])/\Dr W w':=by
  by_cases hb:n<=b
  ·exact⟨0,false,by rw[B.do_13,if_pos hb];rfl,fun W=>aH3 13 n a b W h9 (Or.inr (Or.inr rfl)) hb⟩
  ·exact⟨_,true,by rw[B.do_13,if_neg hb];rfl,fun W=>aRs n a b W h9 (by omega)⟩
 have Hx:=kH hz;have HW:=kH hcon;clear hz hcon h9 a1 b1 hl;obtain⟨Z,hZ⟩:∃Z,Z=(if ok=true then z else 0):=⟨_,rfl⟩;rw[<-hZ]at HW;have HZ:=kH hZ;clear hZ
 go_enter func170,ntmps170
 go_wp2_with fail
 refine(HS.out _).mono ?_;rintro e w' ⟨rfl,rfl⟩
 go_wp2_with fail
 refine(HT.out _).mono ?_;rintro e w' ⟨rfl,rfl⟩
 go_wp2_with fail
 refine(HW.out _).mono ?_;rintro e w2 ⟨rfl,hd⟩;go_wp2;go_ret2;exact⟨aAy (by rw[Hx.out];rw[HZ.out];cases ok <;> rfl) (by rw[B.has,Hx.out];cases ok <;> rfl),hd⟩
theorem aVg(op n a b:Int)(w:World)(h:B.Wds n a b)(h1:1<=op)(h2:op<=13):
 Calls prog 170 #[.int .i64 op, .int .i64 n, .int .u32 a, .int .u32 b] w fun e w'=>e= .returned (.tuple #[.int .u32 ((B.do_ op n a b).getD 0), .bool (B.has op n a b)])/\Dr w w':=by
 rcases B.aHe h1 h2 with rfl | rfl | rfl | rfl | rfl | rfl | rfl | rfl | rfl | rfl | rfl | rfl | rfl
 ·exact bEt n a b w h
 ·exact bEu n a b w h
 ·exact bEv n a b w h
 ·exact bEw n a b w h
 ·exact bEx n a b w h
 ·exact bEy n a b w h
 ·exact bEz n a b w h
 ·exact bE0 n a b w h
 ·exact bE1 n a b w h
 ·exact bDo n a b w h
 ·exact bDp n a b w h
 ·exact bDq n a b w h
 ·exact bDr n a b w h
theorem aVh(op n a b:Int)(w:World)(h:B.Wds n a b)(h1:1<=op)(h2:op<=13):Calls prog 169 #[.int .i64 op, .int .i64 n, .int .u32 a, .int .u32 b] w fun e w'=>e= .returned (.int .i64 0)/\w=w':=by
 obtain⟨n0,n1,a0,a1,b0,b1⟩:=h;have hl:=B.pw_le n1;have wa:B.isW n a=true:=B.aG0.2 ⟨n0,n1,a1⟩;have wb:B.isW n b=true:=B.aG0.2 ⟨n0,n1,b1⟩;have HI:=kH (fun W=>aKb n W n0 n1);have ha:=fun W=>aCq n a W a0 (by omega)
 have hb:=fun W=>aCq n b W b0 (by omega)
 rw[wa]at ha;rw[wb]at hb;have HA:=kH ha;have HB:=kH hb;clear ha hb wa wb a1 b1 hl
 go_enter func169,ntmps169
 go_wp2_with fail
 refine(HI.out _).mono ?_;rintro e w' ⟨rfl,rfl⟩;have hgt:decide (13<op)=false:=by simp;omega
 go_wp2_with fail
 refine(HA.out _).mono ?_;rintro e w' ⟨rfl,rfl⟩
 go_wp2_with fail
 refine(HB.out _).mono ?_;rintro e w' ⟨rfl,rfl⟩;go_wp2;go_ret;exact⟨rfl,rfl⟩
theorem bE2(op n a b:Int)(w:World)(ha:0<=a)(ha':a<4294967296)(hb:0<=b)(hb':b<4294967296)(h:B.okOp op n a b=false):Calls prog 169 #[.int .i64 op, .int .i64 n, .int .u32 a, .int .u32 b] w fun e w'=>e= .returned (.int .i64 1)/\w=w':=by
 unfold B.okOp at h;have HI:=aHj n w;have HA:=kH (fun W=>aCq n a W ha ha');have HB:=kH (fun W=>aCq n b W hb hb');cases hn:B.isWd n
 ·rw[hn]at HI;have HI':=kH HI;clear HI h hn
  go_enter func169,ntmps169
  go_wp2_with fail
  refine HI'.out.mono ?_;rintro e w' ⟨rfl,rfl⟩;go_wp2;go_ret;exact⟨rfl,rfl⟩
 rw[hn]at HI;have HI':=kH HI;clear HI hn
 by_cases h1:op<1
 ·clear h
  go_enter func169,ntmps169
  go_wp2_with fail
  refine HI'.out.mono ?_;rintro e w' ⟨rfl,rfl⟩;go_wp2;go_ret;exact⟨rfl,rfl⟩
 have hd1:decide (op<1)=false:=by simpa using h1
 by_cases h2:13<op
 ·clear h;have h3:1<=op:=by omega
  go_enter func169,ntmps169
  go_wp2_with fail
  refine HI'.out.mono ?_;rintro e w' ⟨rfl,rfl⟩;go_wp2;go_ret;exact⟨rfl,rfl⟩
 have h3:1<=op:=by omega
 have h4:op<=13:=by omega
 have hd2:decide (13<op)=false:=by simpa using h2
 simp only[h3,h4,decide_true,Bool.true_and]at h;cases hA:B.isW n a
 ·have HA':=HA.out w;rw[hA]at HA';have HA2:=kH HA';clear HA' h hA
  go_enter func169,ntmps169
  go_wp2_with fail
  refine HI'.out.mono ?_;rintro e w' ⟨rfl,rfl⟩
  go_wp2_with fail
  refine HA2.out.mono ?_;rintro e w' ⟨rfl,rfl⟩;go_wp2;go_ret;exact⟨rfl,rfl⟩
 ·have hB:B.isW n b=false:=by rw[hA]at h;simpa using h
  have HA':=HA.out w;rw[hA]at HA';have HA2:=kH HA';have HB':=HB.out w;rw[hB]at HB';have HB2:=kH HB';clear HA' HB' h hA hB
  go_enter func169,ntmps169
  go_wp2_with fail
  refine HI'.out.mono ?_;rintro e w' ⟨rfl,rfl⟩
  go_wp2_with fail
  refine HA2.out.mono ?_;rintro e w' ⟨rfl,rfl⟩
  go_wp2_with fail
  refine HB2.out.mono ?_;rintro e w' ⟨rfl,rfl⟩;go_wp2;go_ret;exact⟨rfl,rfl⟩
end Go.Proofs.YtchdbhggbdcapaaGreat
end
section
namespace Go.Proofs.YtchdbhggbdcapaaGreat
open _root_.Go.Proofs.Tryz
open Go.RowKit
theorem aTl(op n a b:Int)(w:World)(h:B.Wds n a b)(ho:op=4\/op=5\/op=6\/op=7\/op=11\/op=12\/op=13)(hx:B.do_ op n a b=none):Calls prog 126 #[.int .i64 op, .int .i64 n, .int .u32 a, .int .u32 b] w fun e w'=>
 e= .returned (.tuple #[.int .u32 (B.els op n a b), .int .i64 0])/\Dr w w':=by
 have h1:1<=op/\op<=13:=by omega
 have ht:=aVh op n a b w h h1.1 h1.2;have hd:=aVg op n a b w h h1.1 h1.2;rw[hx,show B.has op n a b=false by rw[B.has,hx];rfl]at hd;obtain⟨n0,n1,a0,a1,b0,b1⟩:=h;have hl:=B.pw_le n1;have hg:=B.aM0 n0;have a2:a<4294967296:=by omega
 have b2:b<4294967296:=by omega
 have HT:=kH ht;have HD:=kH hd;have HZ:=kH (fun W=>aCu n W (by omega) n1);have HS:=kH (fun W=>aAv n a W n0 n1 a0 a2);clear ht hd hx h1 a1 b1;have hels:∀z s:Int,z=B.pw n->s=B.sg n a->B.els op n a b=(if op=4 then z-1 else if op=5 then a else if op=6 then(if b≠0 then a else if s<0 then 1 else z-1)else if op=7 then(if b≠0 then 0 else a)else if op=13 then(if s<0 then z-1 else 0)else 0):=by
  rintro z s rfl rfl;rfl
 obtain⟨z,hz⟩:∃z,z=B.pw n:=⟨_,rfl⟩;obtain⟨s,hs⟩:∃s,s=B.sg n a:=⟨_,rfl⟩;rw[<-hz]at HZ hl hg;rw[<-hs]at HS;rw[hels z s hz hs];clear hels hz hs
 by_cases hb:b=0
 ·have hb0:(b != 0)=false:=by simpa using hb
  have Hb:=kH hb;clear hb
  by_cases hsn:s<0
  all_goals
   rcases ho with rfl | rfl | rfl | rfl | rfl | rfl | rfl
   all_goals
    go_enter func126,ntmps126
    go_wp2_with fail
    refine HT.out.mono ?_;rintro e w' ⟨rfl,rfl⟩
    go_wp2_with fail
    refine HD.out.mono ?_;rintro e w2 ⟨rfl,hdr⟩
    go_wp2_with fail
    refine(HZ.out _).mono ?_;rintro e w' ⟨rfl,rfl⟩
    go_wp2_with fail
    refine(HS.out _).mono ?_;rintro e w' ⟨rfl,rfl⟩;go_wp2;go_ret2;exact⟨aX7 (by have hb:=Hb.out;simp[hb,hsn] <;> omega) rfl,hdr⟩
 ·have hb0:(b != 0)=true:=by simpa using hb
  have Hb:=kH hb;clear hb
  by_cases hsn:s<0
  all_goals
   rcases ho with rfl | rfl | rfl | rfl | rfl | rfl | rfl
   all_goals
    go_enter func126,ntmps126
    go_wp2_with fail
    refine HT.out.mono ?_;rintro e w' ⟨rfl,rfl⟩
    go_wp2_with fail
    refine HD.out.mono ?_;rintro e w2 ⟨rfl,hdr⟩
    go_wp2_with fail
    refine(HZ.out _).mono ?_;rintro e w' ⟨rfl,rfl⟩
    go_wp2_with fail
    refine(HS.out _).mono ?_;rintro e w' ⟨rfl,rfl⟩;go_wp2;go_ret2;exact⟨aX7 (by have hb:=Hb.out;simp[hb,hsn] <;> omega) rfl,hdr⟩
theorem aWk(op n a b:Int)(w:World)(ha:0<=a)(ha':a<4294967296)(hb:0<=b)(hb':b<4294967296):Calls prog 126 #[.int .i64 op, .int .i64 n, .int .u32 a, .int .u32 b] w fun e w'=>
 e= .returned (.tuple #[.int .u32 (B.total op n a b).1, .int .i64 (B.total op n a b).2])/\Dr w w':=by
 cases hok:B.okOp op n a b
 ·have HT:=kH (bE2 op n a b w ha ha' hb hb' hok);have e:B.total op n a b=(0,1):=by unfold B.total;rw[if_neg (by rw[hok];simp)]
  rw[e];clear hok e
  go_enter func126,ntmps126
  go_wp2_with fail
  refine HT.out.mono ?_;rintro e w' ⟨rfl,rfl⟩;go_wp2;go_ret2;exact⟨rfl,Dr.refl _⟩
 ·have e:B.total op n a b=(B.full op n a b,0):=by unfold B.total;rw[if_pos hok]
  rw[e];have hw:(1<=op/\op<=13)/\B.Wds n a b:=by
   unfold B.okOp at hok;simp only[Bool.and_eq_true,B.aG0,zBQ]at hok;obtain⟨⟨⟨o1,o2⟩,h1,h2,h3⟩,_,_,h4⟩:=hok;exact⟨⟨o1,o2⟩,h1,h2,ha,h3,hb,h4⟩
  obtain⟨h1,hw⟩:=hw;cases hx:B.do_ op n a b with
  | none=>
   have ho:op=4\/op=5\/op=6\/op=7\/op=11\/op=12\/op=13:=by
    rcases B.aHe h1.1 h1.2 with rfl | rfl | rfl | rfl | rfl | rfl | rfl | rfl | rfl | rfl | rfl | rfl | rfl
    ·rw[B.do_1]at hx;cases hx
    ·rw[B.do_2]at hx;cases hx
    ·rw[B.do_3]at hx;cases hx
    ·omega
    ·omega
    ·omega
    ·omega
    ·rw[B.do_8]at hx;cases hx
    ·rw[B.do_9]at hx;cases hx
    ·rw[B.do_10]at hx;cases hx
    ·omega
    ·omega
    ·omega
   have ef:B.full op n a b=B.els op n a b:=by rw[B.full,hx];rfl
   rw[ef];exact aTl op n a b w hw ho hx
  | some z=>
   have ht:=aVh op n a b w hw h1.1 h1.2;have hd:=aVg op n a b w hw h1.1 h1.2;rw[hx,show B.has op n a b=true by rw[B.has,hx];rfl]at hd;have ef:B.full op n a b=z:=by rw[B.full,hx];rfl
   rw[ef];have HT:=kH ht;have HD:=kH hd;clear ht hd hx ef hw hok e
   go_enter func126,ntmps126
   go_wp2_with fail
   refine HT.out.mono ?_;rintro e w' ⟨rfl,rfl⟩
   go_wp2_with fail
   refine HD.out.mono ?_;rintro e w2 ⟨rfl,hdr⟩;go_wp2;go_ret2;exact⟨rfl,hdr⟩
end Go.Proofs.YtchdbhggbdcapaaGreat
end
end
section
section
namespace Go.Proofs.YtchdbhggbdcapaaGreat
open _root_.Go.Proofs.Tryz
open Go.RowKit
theorem aKc{P:Program}{t e:TypeId}{z:Value}{s bytes:Nat}(ht:P.underlying t=some (.slice e))(hinfo:(P.info? e).map (fun i=>(i.zero,i.size,i.bytes))=some (some z,s,bytes))(g off n cap k:Nat)(hk:k<=cap)(w:World):
 (Instr.slice t (.slice (some ⟨g,off,none⟩) n cap) none (some (.int .i64 (k:Int))) none).run P w= .ok (.slice (some ⟨g,off,none⟩) k cap) w:=by
 obtain⟨i,hi,hz,hsz,hby⟩:=info_parts hinfo;simp[Instr.slice,Instr.sliceBounds,Instr.sliceBound,run_underlying ht,asIntOf,sizeOf,typeInfo,hi,hsz,hk,aBl]
theorem aHv{P:Program}{t e:TypeId}{z:Value}{s bytes:Nat}(ht:P.underlying t=some (.slice e))(hinfo:(P.info? e).map (fun i=>(i.zero,i.size,i.bytes))=some (some z,s,bytes))(g off n cap K:Nat)(hk:K<=n)(w:World):
 (Instr.slice t (.slice (some ⟨g,off,none⟩) n cap) (some (.int .i64 (K:Int))) none none).run P w= .ok (.slice (if cap=K then some ⟨g,off,none⟩else some ⟨g,off+K*s,none⟩) (n-K) (cap-K)) w:=by
 obtain⟨i,hi,hz,hsz,hby⟩:=info_parts hinfo;simp[Instr.slice,Instr.sliceBounds,Instr.sliceBound,run_underlying ht,asIntOf,sizeOf,typeInfo,hi,hsz,hk]
 by_cases hck:cap=K
 ·simp[hck]
 ·simp[hck,aBl]
end Go.Proofs.YtchdbhggbdcapaaGreat
end
section
namespace Go.Proofs.YtchdbhggbdcapaaGreat
open _root_.Go.Proofs.Tryz
open Go.RowKit
theorem aQf{α:Type}{p:α->Bool}{xs:List α}{k:Nat}{x:α}(hx:xs[k]? =some x)(h:(xs.take k).any p=false)(hp:p x=false):(xs.take (k+1)).any p=false:=by
 rw[aJ1 hx,List.any_append,h];simp[hp]
theorem aTm{α:Type}{p:α->Bool}{xs:List α}{k:Nat}{x:α}(hx:xs[k]? =some x)(hp:p x=true):xs.any p=true:=
 List.any_eq_true.2 ⟨x,zAC hx,hp⟩
end Go.Proofs.YtchdbhggbdcapaaGreat
end
section
namespace Go.Proofs.YtchdbhggbdcapaaGreat
open _root_.Go.Proofs.Tryz
open Go.RowKit
theorem aRt{q:IntKind}(x:Int):∀u∈ [Value.int q x],u.oneCell'=true:=by simp[Value.oneCell']
end Go.Proofs.YtchdbhggbdcapaaGreat
end
section
namespace Go.Proofs.YtchdbhggbdcapaaGreat
open _root_.Go.Proofs.Tryz
open Go.RowKit
theorem aA1{X:World}{g:Nat}{o:Obj}(h:X.heap[g]? =some o)(o':Obj):(X.alloc o').heap[g]? =some o:=(Below.heap_alloc _ _ _ (gA h).1).trans h
theorem aBt{X Y:World}{g:Nat}{o:Obj}(hb:Hid (Below X.heap.size X Y))(h:X.heap[g]? =some o):Y.heap[g]? =some o:=(hb.out.block g (gA h).1).trans h
theorem aC2(X:World)(o o':Obj):((X.alloc o).alloc o').heap[X.heap.size+1]? =some o':=by
 have:=heap_alloc_new (X.alloc o) o'
 rwa [World.size_alloc]at this
def fillC(xs:List Int)(c:Nat):List Value:=xs.map (Value.int .u32)++ List.replicate (c-xs.length) (.int .u32 0)
theorem aPi(c:Nat):(fillC [] c).toArray=Array.replicate c (.int .u32 0):=by
 unfold fillC;simp
theorem aNf{xs:List Int}{c:Nat}(h:xs.length=c):fillC xs c=xs.map (Value.int .u32):=by
 unfold fillC;rw[h,zBG];simp
theorem aPj{w:World}{p:Nat}{xs:List Int}{c:Nat}{x:Int}{T:TypeId}(h:w.heap[p]? =some (.cells (fillC xs c).toArray T (0,0))){a:Nat}(ha:xs.length=a)(hc:a<c):
 (w.setCell ⟨p,a,none⟩ (.int .u32 x)).heap[p]? =some (.cells (fillC (xs ++ [x]) c).toArray T (0,0)):=by
 rw[heap_setCell_same w p a _ _ _ h]
 congr 3
 subst ha;apply Array.toList_inj.1;simp[fillC];rw[show c-xs.length=(c- (xs.length+1))+1 by omega,List.replicate_succ];simp
theorem aPk{w:World}{p:Nat}{xs:List Int}{c:Nat}{T:TypeId}(h:w.heap[p]? =some (.cells (fillC xs c).toArray T (0,0))){a:Nat}(ha:xs.length<=c)(hc:a<c):
 (w.cell? ⟨p,a,none⟩).isSome=true/\w.frozen? ⟨p,a,none⟩=false:=by
 refine⟨?_,by simp[World.frozen?,h]⟩;rw[cell_of_row w p _ _ T (0,0) h];have:a<(fillC xs c).length:=by simp[fillC];omega
 simp[this]
end Go.Proofs.YtchdbhggbdcapaaGreat
end
end
