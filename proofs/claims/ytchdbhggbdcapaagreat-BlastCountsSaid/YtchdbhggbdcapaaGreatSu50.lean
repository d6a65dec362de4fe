/- Part. -/
import Derived.Test.YtchdbhggbdcapaaGreatSuLX
import Derived.Test.YtchdbhggbdcapaaGreatSu00
set_option linter.unusedVariables false
set_option linter.unusedSimpArgs false
set_option maxRecDepth 100000
set_option maxHeartbeats 16000000
section
section
namespace Go.Proofs.YtchdbhggbdcapaaGreat.B
theorem bFw{op n a b:Int}(ha0:0<=a)(hb0:0<=b):0<=(total op n a b).1/\(total op n a b).1<4294967296:=by
 unfold total;split
 ·rename_i h;unfold okOp at h;simp only[Bool.and_eq_true,aG0,zBQ]at h;obtain⟨⟨⟨ho,ho'⟩,h1,h2,h3⟩,_,_,h4⟩:=h;have:=aO7 ho ho' h1 ha0 h3 hb0 h4;have:=pw_le h2
  show 0<=full op n a b/\full op n a b<4294967296
  omega
 ·simp
end Go.Proofs.YtchdbhggbdcapaaGreat.B
end
section
namespace Go.Proofs.YtchdbhggbdcapaaGreat
open _root_.Go.Proofs.Tryz
open Go.RowKit
theorem bCz(n x:Int)(w:World)(h0:1<=n)(h1:n<=32)(h2:0<=x)(h3:x<B.pw n):Calls prog 231 #[.int .i64 n, .int .u32 x] w fun e w'=>e= .returned (.int .u32 (if B.sg n x<0 then B.pw n-1 else 0))/\w=w':=by
 have H1:=kH (aCn n x w h0 h1 h2 h3);have H2:=kH (aC7 n w (by omega) h1);clear h3
 by_cases hc:B.sg n x<0
 ·go_enter func231,ntmps231
  go_wp2_with fail
  refine H1.out.mono ?_;rintro e w' ⟨rfl,rfl⟩
  go_wp2_with fail
  refine H2.out.mono ?_;rintro e w' ⟨rfl,rfl⟩;go_wp2;go_ret;exact⟨rfl,rfl⟩
 ·go_enter func231,ntmps231
  go_wp2_with fail
  refine H1.out.mono ?_;rintro e w' ⟨rfl,rfl⟩;go_wp2;go_ret;exact⟨rfl,rfl⟩
end Go.Proofs.YtchdbhggbdcapaaGreat
end
section
namespace Go.Proofs.YtchdbhggbdcapaaGreat
open _root_.Go.Proofs.Tryz
open Go.RowKit
theorem aV2{a a' b b':Int}{c:Bool}(h:a=a')(h':b=b'):Ending.returned (.tuple #[.int .i64 a, .int .i64 b, .bool c])= .returned (.tuple #[.int .i64 a', .int .i64 b', .bool c]):=by rw[h,h']
theorem aQr(n a b:Int)(w:World)(h:B.Wds n a b)(hq:b=0\/(B.sg n a= -B.pw (n-1)/\B.sg n b= -1)):
 Calls prog 219 #[.int .i64 n, .int .u32 a, .int .u32 b] w fun e w'=>e= .returned (.tuple #[.int .i64 0, .int .i64 0, .bool false])/\w=w':=by
 obtain⟨n0,n1,a0,a1,b0,b1⟩:=h;have H1:=kH (aCn n a w n0 n1 a0 a1);have H2:=kH (aCn n b w n0 n1 b0 b1);have hz:=B.aH8 n0 b0 b1;have h3:=B.aEf (show n-1<=31 by omega);have h4:=B.aBr (n-1);have e2:(2:Int) ^ (n.toNat-1)=B.pw (n-1):=B.aQz n0
 by_cases hb:b=0
 ·have hs:(B.sg n b == 0)=true:=by rw[hz.2 hb];rfl
  clear hq hz h3 h4 e2 hb a1 b1
  go_enter func219,ntmps219
  go_wp2_with fail
  refine H1.out.mono ?_;rintro e w' ⟨rfl,rfl⟩
  go_wp2_with fail
  refine H2.out.mono ?_;rintro e w' ⟨rfl,rfl⟩;go_wp2
  go_ret3
  exact⟨rfl,rfl⟩
 ·obtain⟨q1,q2⟩:=hq.resolve_left hb;clear hq hz hb a1 b1;have hs:(B.sg n b == 0)=false:=by rw[q2];rfl
  have hs2:(B.sg n b == -1)=true:=by rw[q2];rfl
  have hs3:(B.sg n a == wrap64 (-wrap64 (2 ^ (n.toNat-1))))=true:=by
   rw[e2,B.aBz (x:=B.pw (n-1)) (by omega) (by omega),B.aBz (by omega) (by omega),q1];simp
  clear q1 q2 h3 h4 e2
  go_enter func219,ntmps219
  go_wp2_with fail
  refine H1.out.mono ?_;rintro e w' ⟨rfl,rfl⟩
  go_wp2_with fail
  refine H2.out.mono ?_;rintro e w' ⟨rfl,rfl⟩;go_wp2
  go_ret3
  exact⟨rfl,rfl⟩
theorem aQs(n a b:Int)(w:World)(h:B.Wds n a b)(hq:¬(b=0\/(B.sg n a= -B.pw (n-1)/\B.sg n b= -1))):
 Calls prog 219 #[.int .i64 n, .int .u32 a, .int .u32 b] w fun e w'=>e= .returned (.tuple #[.int .i64 ((B.sg n a).tdiv (B.sg n b)), .int .i64 ((B.sg n a).tmod (B.sg n b)), .bool true])/\Dr w w':=by
 obtain⟨n0,n1,a0,a1,b0,b1⟩:=h;have H1:=kH (aCn n a w n0 n1 a0 a1);have H2:=kH (aCn n b w n0 n1 b0 b1);have hz:=B.aH8 n0 b0 b1;have h3:=B.aEf (show n-1<=31 by omega);have h4:=B.aBr (n-1);have hlo:=B.sg_lo n0 a0;have hhi:=B.sg_hi n0 a1;have e2:(2:Int) ^ (n.toNat-1)=B.pw (n-1):=B.aQz n0;have hb:b≠0:=fun h=>hq (.inl h)
 have hne:B.sg n b≠0:=fun h=>hb (hz.1 h)
 have hs:(B.sg n b == 0)=false:=by simpa using hne
 have bd:=B.aM1 (B.sg n a) (B.sg n b);have bm:=B.aM2 (B.sg n a) (B.sg n b);have ed:wrap64 ((B.sg n a).tdiv (B.sg n b))=(B.sg n a).tdiv (B.sg n b):=B.aBz (by omega) (by omega);have em:wrap64 ((B.sg n a).tmod (B.sg n b))=(B.sg n a).tmod (B.sg n b):=B.aBz (by omega) (by omega)
 by_cases hb1:B.sg n b= -1
 ·have hs2:(B.sg n b == -1)=true:=by rw[hb1];rfl
  have hs3:(B.sg n a == wrap64 (-wrap64 (2 ^ (n.toNat-1))))=false:=by
   rw[e2,B.aBz (x:=B.pw (n-1)) (by omega) (by omega),B.aBz (by omega) (by omega)];have:B.sg n a≠-B.pw (n-1):=fun h=>hq (.inr ⟨h,hb1⟩)
   simpa using this
  clear hq hz hb a1 b1 hb1 e2 h3 h4 hlo hhi bd bm em;have Hd:=kH ed;clear ed
  go_enter func219,ntmps219
  go_wp2_with fail
  refine H1.out.mono ?_;rintro e w' ⟨rfl,rfl⟩
  go_wp2_with fail
  refine H2.out.mono ?_;rintro e w' ⟨rfl,rfl⟩;go_wp2
  go_quiet (fail)
  go_wp2
  go_ret3
  exact⟨aV2 Hd.out rfl,⟨_,rfl⟩⟩
 ·have hs2:(B.sg n b == -1)=false:=by simpa using hb1
  clear hq hz hb a1 b1 hb1 e2 h3 h4 hlo hhi bd bm em;have Hd:=kH ed;clear ed
  go_enter func219,ntmps219
  go_wp2_with fail
  refine H1.out.mono ?_;rintro e w' ⟨rfl,rfl⟩
  go_wp2_with fail
  refine H2.out.mono ?_;rintro e w' ⟨rfl,rfl⟩;go_wp2
  go_quiet (fail)
  go_wp2
  go_ret3
  exact⟨aV2 Hd.out rfl,⟨_,rfl⟩⟩
def aEd(k:Int)(f:Nat)(caps:Array Value)(w:World):Prop:=∀n a b:Int,B.Wds n a b->
 Calls prog f (#[.int .i64 n, .int .u32 a, .int .u32 b]++ caps) w fun e w'=>e= .returned (.tuple #[.int .u32 (B.full k n a b), .bool (B.has k n a b)])/\Dr w w'
theorem bC0(k:Int)(g B0:Nat)(w:World)(eg:∀args w,(callFunc g args).run prog w= .ok (.enter g args) w)(x:Int->Int->Int)(hc:w.cell? ⟨B0,0,none⟩=some (.func (.func g) #[] #[]))
 (hg:∀a b:Int,Calls prog g #[.int .u32 a, .int .u32 b] w fun e w'=>e= .returned (.int .u32 (x a b % 4294967296))/\w=w') (hx:∀n a b,B.do_ k n a b=some (x a b % B.pw n)):aEd k 233 #[.pointer (some ⟨B0,0,none⟩)] w:=by
 intro n a b h;obtain⟨n0,n1,a0,a1,b0,b1⟩:=h;have H1:=kH (hg a b);clear hg;have H2:=kH (aC7 n w (by omega) n1);have Hx:=kH (hx n a b);clear hx
 show Calls prog _ #[.int .i64 n, .int .u32 a, .int .u32 b, .pointer (some ⟨B0,0,none⟩)] w _
 have He:=B.aE3 (x a b) n1;have HE:=kH He;clear He a1 b1;generalize x a b % 4294967296=y at H1 HE;generalize B.pw n-1=z at H2 HE
 go_enter func233,ntmps233
 go_wp2_with fail
 refine H1.out.mono ?_;rintro e w' ⟨rfl,rfl⟩
 go_wp2_with fail
 refine H2.out.mono ?_;rintro e w' ⟨rfl,rfl⟩;go_wp2;go_ret2;exact⟨aAy (by rw[B.full,Hx.out,HE.out];rfl) (by rw[B.has,Hx.out];rfl),Dr.refl _⟩
theorem bC1(k:Int)(g B0:Nat)(w:World)(eg:∀args w,(callFunc g args).run prog w= .ok (.enter g args) w)(x:Int->Int->Int)(hc:w.cell? ⟨B0,0,none⟩=some (.func (.func g) #[] #[]))
 (hg:∀a b:Int,0<=a->a<4294967296->0<=b->b<4294967296->Calls prog g #[.int .u32 a, .int .u32 b] w fun e w'=>e= .returned (.int .u32 (x a b))/\w=w') (hx:∀n a b,B.do_ k n a b=some (x a b)):aEd k 234 #[.pointer (some ⟨B0,0,none⟩)] w:=by
 intro n a b h;obtain⟨n0,n1,a0,a1,b0,b1⟩:=h;have hl:=B.pw_le n1;have H1:=kH (hg a b a0 (by omega) b0 (by omega));clear hg hl;have Hx:=kH (hx n a b);clear hx
 show Calls prog _ #[.int .i64 n, .int .u32 a, .int .u32 b, .pointer (some ⟨B0,0,none⟩)] w _
 clear a1 b1;generalize x a b=y at H1 Hx
 go_enter func234,ntmps234
 go_wp2_with fail
 refine H1.out.mono ?_;rintro e w' ⟨rfl,rfl⟩;go_wp2;go_ret2;exact⟨aAy (by rw[B.full,Hx.out];rfl) (by rw[B.has,Hx.out];rfl),Dr.refl _⟩
theorem aXx(a b:Int)(w:World):Calls prog 210 #[.int .u32 a, .int .u32 b] w fun e w'=>e= .returned (.int .u32 ((a+b) % 4294967296))/\w=w':=by
 go_enter func210,ntmps210
 go_wp2;go_ret;exact⟨rfl,rfl⟩
theorem aXy(a b:Int)(w:World):Calls prog 212 #[.int .u32 a, .int .u32 b] w fun e w'=>e= .returned (.int .u32 ((a-b) % 4294967296))/\w=w':=by
 go_enter func212,ntmps212
 go_wp2;go_ret;exact⟨rfl,rfl⟩
theorem aXz(a b:Int)(w:World):Calls prog 214 #[.int .u32 a, .int .u32 b] w fun e w'=>e= .returned (.int .u32 ((a*b) % 4294967296))/\w=w':=by
 go_enter func214,ntmps214
 go_wp2;go_ret;exact⟨rfl,rfl⟩
theorem aX0(a b:Int)(w:World)(a0:0<=a)(a1:a<4294967296)(b0:0<=b)(b1:b<4294967296):Calls prog 223 #[.int .u32 a, .int .u32 b] w fun e w'=>e= .returned (.int .u32 (((a.toNat &&& b.toNat:Nat):Int)))/\w=w':=by
 go_enter func223,ntmps223
 go_wp2;go_ret;exact⟨aB3 (u32_and a b a0 a1 b0 b1),rfl⟩
theorem aX1(a b:Int)(w:World)(a0:0<=a)(a1:a<4294967296)(b0:0<=b)(b1:b<4294967296):Calls prog 224 #[.int .u32 a, .int .u32 b] w fun e w'=>e= .returned (.int .u32 (((a.toNat ||| b.toNat:Nat):Int)))/\w=w':=by
 go_enter func224,ntmps224
 go_wp2;go_ret;exact⟨aB3 (u32_or a b a0 a1 b0 b1),rfl⟩
theorem aUr(a b:Int)(w:World)(a0:0<=a)(a1:a<4294967296)(b0:0<=b)(b1:b<4294967296):Calls prog 225 #[.int .u32 a, .int .u32 b] w fun e w'=>e= .returned (.int .u32 (((a.toNat ^^^ b.toNat:Nat):Int)))/\w=w':=by
 go_enter func225,ntmps225
 go_wp2;go_ret;exact⟨aB3 (u32_xor a b a0 a1 b0 b1),rfl⟩
end Go.Proofs.YtchdbhggbdcapaaGreat
end
section
namespace Go.Proofs.YtchdbhggbdcapaaGreat
open _root_.Go.Proofs.Tryz
open Go.RowKit
theorem does4(w:World):aEd 4 215 #[] w:=by
 intro n a b h;obtain⟨n0,n1,a0,a1,b0,b1⟩:=h;have hl:=B.pw_le n1;have a2:a<4294967296:=by omega
 have b2:b<4294967296:=by omega
 show Calls prog _ #[.int .i64 n, .int .u32 a, .int .u32 b] w _
 have HM:=kH (fun W=>aC7 n W (by omega) n1)
 by_cases hb:b=0
 ·have hs:(b == 0)=true:=by simpa using hb
  have Hx:=kH (show B.do_ 4 n a b=none by rw[B.do_4,if_pos hb]);clear hb a1 b1 hl
  go_enter func215,ntmps215
  go_wp2_with fail
  refine(HM.out _).mono ?_;rintro e w' ⟨rfl,rfl⟩;go_wp2;go_ret2;exact⟨aAy (by rw[B.full,Hx.out];rfl) (by rw[B.has,Hx.out];rfl),Dr.refl _⟩
 ·have hs:(b == 0)=false:=by simpa using hb
  have hb1:1<=b:=by omega
  have Hx:=kH (show B.do_ 4 n a b=some (a / b) by rw[B.do_4,if_neg hb]);clear hb a1 b1 hl
  go_enter func215,ntmps215
  go_wp2;go_ret2;exact⟨aAy (by rw[B.full,Hx.out];rfl) (by rw[B.has,Hx.out];rfl),Dr.refl _⟩
theorem does5(w:World):aEd 5 217 #[] w:=by
 intro n a b h;obtain⟨n0,n1,a0,a1,b0,b1⟩:=h;have hl:=B.pw_le n1;have a2:a<4294967296:=by omega
 have b2:b<4294967296:=by omega
 show Calls prog _ #[.int .i64 n, .int .u32 a, .int .u32 b] w _
 by_cases hb:b=0
 ·have hs:(b == 0)=true:=by simpa using hb
  have Hx:=kH (show B.do_ 5 n a b=none by rw[B.do_5,if_pos hb]);clear hb a1 b1 hl
  go_enter func217,ntmps217
  go_wp2;go_ret2;exact⟨aAy (by rw[B.full,Hx.out];rfl) (by rw[B.has,Hx.out];rfl),Dr.refl _⟩
 ·have hs:(b == 0)=false:=by simpa using hb
  have hb1:1<=b:=by omega
  have Hx:=kH (show B.do_ 5 n a b=some (a % b) by rw[B.do_5,if_neg hb]);clear hb a1 b1 hl
  go_enter func217,ntmps217
  go_wp2;go_ret2;exact⟨aAy (by rw[B.full,Hx.out];rfl) (by rw[B.has,Hx.out];rfl),Dr.refl _⟩
theorem aS8(n a b:Int)(w:World)(h:B.Wds n a b):∃(q r:Int) (ok:Bool),
 (Calls prog 219 #[.int .i64 n, .int .u32 a, .int .u32 b] w fun e w'=>e= .returned (.tuple #[.int .i64 q, .int .i64 r, .bool ok])/\Dr w w')/\
 ((b=0\/(B.sg n a= -B.pw (n-1)/\B.sg n b= -1))/\q=0/\r=0/\ok=false\/
  ¬(b=0\/(B.sg n a= -B.pw (n-1)/\B.sg n b= -1))/\q=(B.sg n a).tdiv (B.sg n b)/\r=(B.sg n a).tmod (B.sg n b)/\ok=true):=by
 by_cases hq:b=0\/(B.sg n a= -B.pw (n-1)/\B.sg n b= -1)
 ·exact⟨0,0,false,(aQr n a b w h hq).mono fun e w' ⟨h1,h2⟩=>⟨h1,by rw[h2];exact Dr.refl _⟩, .inl ⟨hq,rfl,rfl,rfl⟩⟩
 ·exact⟨_,_,true,aQs n a b w h hq, .inr ⟨hq,rfl,rfl,rfl⟩⟩
theorem does6(w:World):aEd 6 218 #[] w:=by
 intro n a b h;obtain⟨q,r,ok,hQ,hcase⟩:=aS8 n a b w h;have HQ:=kH hQ;clear hQ;obtain⟨n0,n1,a0,a1,b0,b1⟩:=h;have hl:=B.pw_le n1;have a2:a<4294967296:=by omega
 have b2:b<4294967296:=by omega
 show Calls prog _ #[.int .i64 n, .int .u32 a, .int .u32 b] w _
 have HM:=kH (fun W=>aC7 n W (by omega) n1);have HS:=kH (fun W=>aCn n a W n0 n1 a0 a1);rcases hcase with⟨hq,rfl,rfl,rfl⟩ |⟨hq,hq2,_,rfl⟩
 ·have hx:B.do_ 6 n a b=none:=by rw[B.do_6,if_pos hq]
  by_cases hb:b=0
  ·have hs:(b != 0)=false:=by simpa using hb
   by_cases hsg:B.sg n a<0
   ·have hf:B.full 6 n a b=1/\B.has 6 n a b=false:=by rw[B.full,B.has,hx];simp[B.els,hb,hsg]
    have Hf:=kH hf;clear hf hx hq hb a1 b1 hl
    go_enter func218,ntmps218
    go_wp2_with fail
    refine HQ.out.mono ?_;rintro e w1 ⟨rfl,hd⟩
    go_wp2_with fail
    refine(HS.out _).mono ?_;rintro e w' ⟨rfl,rfl⟩;go_wp2;go_ret2;exact⟨aAy Hf.out.1.symm Hf.out.2.symm,hd⟩
   ·have hf:B.full 6 n a b=B.pw n-1/\B.has 6 n a b=false:=by rw[B.full,B.has,hx];simp[B.els,hb,hsg]
    have Hf:=kH hf;clear hf hx hq hb a1 b1 hl
    go_enter func218,ntmps218
    go_wp2_with fail
    refine HQ.out.mono ?_;rintro e w1 ⟨rfl,hd⟩
    go_wp2_with fail
    refine(HS.out _).mono ?_;rintro e w' ⟨rfl,rfl⟩
    go_wp2_with fail
    refine(HM.out _).mono ?_;rintro e w' ⟨rfl,rfl⟩;go_wp2;go_ret2;exact⟨aAy Hf.out.1.symm Hf.out.2.symm,hd⟩
  ·have hs:(b != 0)=true:=by simpa using hb
   have hf:B.full 6 n a b=a/\B.has 6 n a b=false:=by rw[B.full,B.has,hx];simp[B.els,hb]
   have Hf:=kH hf;clear hf hx hq hb a1 b1 hl
   go_enter func218,ntmps218
   go_wp2_with fail
   refine HQ.out.mono ?_;rintro e w1 ⟨rfl,hd⟩;go_wp2;go_ret2;exact⟨aAy Hf.out.1.symm Hf.out.2.symm,hd⟩
 ·have hf:B.full 6 n a b=q % B.pw n/\B.has 6 n a b=true:=by rw[B.full,B.has,B.do_6,if_neg hq,hq2];exact⟨rfl,rfl⟩
  have he:=B.aE3 q n1;have Hf:=kH hf;have He:=kH he;clear hf he hq hq2 a1 b1 hl;generalize B.pw n-1=z at HM He
  go_enter func218,ntmps218
  go_wp2_with fail
  refine HQ.out.mono ?_;rintro e w1 ⟨rfl,hd⟩
  go_wp2_with fail
  refine(HM.out _).mono ?_;rintro e w' ⟨rfl,rfl⟩;go_wp2;go_ret2;exact⟨aAy (He.out.trans Hf.out.1.symm) Hf.out.2.symm,hd⟩
theorem does7(w:World):aEd 7 221 #[] w:=by
 intro n a b h;obtain⟨q,r,ok,hQ,hcase⟩:=aS8 n a b w h;have HQ:=kH hQ;clear hQ;obtain⟨n0,n1,a0,a1,b0,b1⟩:=h;have hl:=B.pw_le n1;have a2:a<4294967296:=by omega
 have b2:b<4294967296:=by omega
 show Calls prog _ #[.int .i64 n, .int .u32 a, .int .u32 b] w _
 have HM:=kH (fun W=>aC7 n W (by omega) n1);rcases hcase with⟨hq,rfl,rfl,rfl⟩ |⟨hq,_,hq2,rfl⟩
 ·have hx:B.do_ 7 n a b=none:=by rw[B.do_7,if_pos hq]
  by_cases hb:b=0
  ·have hs:(b == 0)=true:=by simpa using hb
   have hf:B.full 7 n a b=a/\B.has 7 n a b=false:=by rw[B.full,B.has,hx];simp[B.els,hb]
   have Hf:=kH hf;clear hf hx hq hb a1 b1 hl
   go_enter func221,ntmps221
   go_wp2_with fail
   refine HQ.out.mono ?_;rintro e w1 ⟨rfl,hd⟩;go_wp2;go_ret2;exact⟨aAy Hf.out.1.symm Hf.out.2.symm,hd⟩
  ·have hs:(b == 0)=false:=by simpa using hb
   have hf:B.full 7 n a b=0/\B.has 7 n a b=false:=by rw[B.full,B.has,hx];simp[B.els,hb]
   have he:=B.aE3 0 n1;have he2:(0:Int) % 4294967296=0:=rfl;rw[he2,Int.zero_emod]at he;have Hf:=kH hf;clear hf hx hq hb a1 b1 hl he2;have He:=kH he;clear he;generalize B.pw n-1=z at HM He
   go_enter func221,ntmps221
   go_wp2_with fail
   refine HQ.out.mono ?_;rintro e w1 ⟨rfl,hd⟩
   go_wp2_with fail
   refine(HM.out _).mono ?_;rintro e w' ⟨rfl,rfl⟩;go_wp2;go_ret2;exact⟨aAy (He.out.trans Hf.out.1.symm) Hf.out.2.symm,hd⟩
 ·have hf:B.full 7 n a b=r % B.pw n/\B.has 7 n a b=true:=by rw[B.full,B.has,B.do_7,if_neg hq,hq2];exact⟨rfl,rfl⟩
  have he:=B.aE3 r n1;have Hf:=kH hf;have He:=kH he;clear hf he hq hq2 a1 b1 hl;generalize B.pw n-1=z at HM He
  go_enter func221,ntmps221
  go_wp2_with fail
  refine HQ.out.mono ?_;rintro e w1 ⟨rfl,hd⟩
  go_wp2_with fail
  refine(HM.out _).mono ?_;rintro e w' ⟨rfl,rfl⟩;go_wp2;go_ret2;exact⟨aAy (He.out.trans Hf.out.1.symm) Hf.out.2.symm,hd⟩
theorem bFo(w:World):aEd 11 226 #[] w:=by
 intro n a b h;obtain⟨n0,n1,a0,a1,b0,b1⟩:=h;have hl:=B.pw_le n1;have a2:a<4294967296:=by omega
 have b2:b<4294967296:=by omega
 show Calls prog _ #[.int .i64 n, .int .u32 a, .int .u32 b] w _
 have HM:=kH (fun W=>aC7 n W (by omega) n1)
 by_cases hb:n<=b
 ·have hf:B.full 11 n a b=0/\B.has 11 n a b=false:=by rw[B.full,B.has,B.do_11,if_pos hb];exact⟨rfl,rfl⟩
  have Hf:=kH hf;clear hf a1 b1 hl
  go_enter func226,ntmps226
  go_wp2;go_ret2;exact⟨aAy Hf.out.1.symm Hf.out.2.symm,Dr.refl _⟩
 ·have hf:B.full 11 n a b=a*B.pw b % B.pw n/\B.has 11 n a b=true:=by rw[B.full,B.has,B.do_11,if_neg hb];exact⟨rfl,rfl⟩
  have he:=B.aE3 (a*B.pw b) n1;have hb':b<n:=by omega
  have Hf:=kH hf;have He:=kH he;clear hf he a1 b1 hl hb;generalize B.pw n-1=z at HM He
  go_enter func226,ntmps226
  go_wp2_with fail
  refine(HM.out _).mono ?_;rintro e w' ⟨rfl,rfl⟩;go_wp2;go_ret2;exact⟨aAy (He.out.trans Hf.out.1.symm) Hf.out.2.symm,Dr.refl _⟩
theorem bFp(w:World):aEd 12 228 #[] w:=by
 intro n a b h;obtain⟨n0,n1,a0,a1,b0,b1⟩:=h;have hl:=B.pw_le n1;have a2:a<4294967296:=by omega
 have b2:b<4294967296:=by omega
 show Calls prog _ #[.int .i64 n, .int .u32 a, .int .u32 b] w _
 by_cases hb:n<=b
 ·have hf:B.full 12 n a b=0/\B.has 12 n a b=false:=by rw[B.full,B.has,B.do_12,if_pos hb];exact⟨rfl,rfl⟩
  have Hf:=kH hf;clear hf a1 b1 hl
  go_enter func228,ntmps228
  go_wp2;go_ret2;exact⟨aAy Hf.out.1.symm Hf.out.2.symm,Dr.refl _⟩
 ·have hf:B.full 12 n a b=a / B.pw b/\B.has 12 n a b=true:=by rw[B.full,B.has,B.do_12,if_neg hb];exact⟨rfl,rfl⟩
  have hb':b<n:=by omega
  have Hf:=kH hf;clear hf a1 b1 hl hb
  go_enter func228,ntmps228
  go_wp2;go_ret2;exact⟨aAy Hf.out.1.symm Hf.out.2.symm,Dr.refl _⟩
theorem bFq(w:World):aEd 13 230 #[] w:=by
 intro n a b h;obtain⟨n0,n1,a0,a1,b0,b1⟩:=h;have hl:=B.pw_le n1;have a2:a<4294967296:=by omega
 have b2:b<4294967296:=by omega
 show Calls prog _ #[.int .i64 n, .int .u32 a, .int .u32 b] w _
 have HM:=kH (fun W=>aC7 n W (by omega) n1);have HS:=kH (fun W=>aCn n a W n0 n1 a0 a1);have HG:=kH (fun W=>bCz n a W n0 n1 a0 a1)
 by_cases hb:n<=b
 ·have hf:B.full 13 n a b=(if B.sg n a<0 then B.pw n-1 else 0)/\B.has 13 n a b=false:=by rw[B.full,B.has,B.do_13,if_pos hb];exact⟨rfl,rfl⟩
  have Hf:=kH hf;clear hf a1 b1 hl;generalize (if B.sg n a<0 then B.pw n-1 else 0)=z at HG Hf
  go_enter func230,ntmps230
  go_wp2_with fail
  refine(HG.out _).mono ?_;rintro e w' ⟨rfl,rfl⟩;go_wp2;go_ret2;exact⟨aAy Hf.out.1.symm Hf.out.2.symm,Dr.refl _⟩
 ·have hf:B.full 13 n a b=B.sg n a / B.pw b % B.pw n/\B.has 13 n a b=true:=by rw[B.full,B.has,B.do_13,if_neg hb];exact⟨rfl,rfl⟩
  have he:=B.aE3 (B.sg n a / B.pw b) n1;have hb':b<n:=by omega
  have Hf:=kH hf;have He:=kH he;clear hf he a1 b1 hl hb;generalize B.pw n-1=z at HM He
  go_enter func230,ntmps230
  go_wp2_with fail
  refine(HS.out _).mono ?_;rintro e w' ⟨rfl,rfl⟩
  go_wp2_with fail
  refine(HM.out _).mono ?_;rintro e w' ⟨rfl,rfl⟩;go_wp2;go_ret2;exact⟨aAy (He.out.trans Hf.out.1.symm) Hf.out.2.symm,Dr.refl _⟩
end Go.Proofs.YtchdbhggbdcapaaGreat
end
section
namespace Go.Proofs.YtchdbhggbdcapaaGreat
open _root_.Go.Proofs.Tryz
open Go.RowKit Go.Maps Go.Shelf
theorem aKy(f g:Nat)(w:World):Calls prog 208 #[.func (.func f) #[] #[], .func (.func g) #[] #[]] w fun e w'=>
 e= .returned (.agg #[.func (.func 233) #[] #[.pointer (some ⟨w.heap.size,0,none⟩)], .func (.func f) #[] #[], .nilFunc])/\w'.heap[w.heap.size]? =some (.cells #[.func (.func g) #[] #[]] 235 (0,0))/\Below w.heap.size w w'/\w.heap.size<w'.heap.size:=by
 go_enter func208,ntmps208
 go_wp2;exact bodyPost_ret (v:= .agg #[.func (.func 233) #[] #[.pointer (some ⟨w.heap.size,0,none⟩)], .func (.func f) #[] #[], .nilFunc]) (by simp[results,Tryz.results208,go_sem]) rfl
  ⟨rfl,(Below.heap_alloc _ _ _ (by simp)).trans (heap_alloc_new w _),(al0).alloc (by simp) _,by simp;omega⟩
theorem aKz(g:Nat)(w:World):Calls prog 222 #[.func (.func g) #[] #[]] w fun e w'=>
 e= .returned (.agg #[.func (.func 234) #[] #[.pointer (some ⟨w.heap.size,0,none⟩)], .nilFunc, .nilFunc])/\w'.heap[w.heap.size]? =some (.cells #[.func (.func g) #[] #[]] 235 (0,0))/\Below w.heap.size w w'/\w.heap.size<w'.heap.size:=by
 go_enter func222,ntmps222
 go_wp2;exact bodyPost_ret (v:= .agg #[.func (.func 234) #[] #[.pointer (some ⟨w.heap.size,0,none⟩)], .nilFunc, .nilFunc]) (by simp[results,Tryz.results222,go_sem]) rfl
  ⟨rfl,(Below.heap_alloc _ _ _ (by simp)).trans (heap_alloc_new w _),(al0).alloc (by simp) _,by simp;omega⟩
theorem aA7{κ α:Type} [DecidableEq κ]{P:Program}{kt et t:TypeId}{ek:κ->Value}{R:World->κ->Value->α->Prop}{w:World}{b:Nat}{l:List (κ×α)}
 {ops:Array Oper} {rest:List Oper} {o:Oper} {a:Act} {Q:Exit->Act->World->Prop} (hg:o.guard=none) (m x v:Operand) (hop:o.op=Op.insert t m x v)
 (h:MapAt P kt ek R w b l) (K:Keyed P kt) (hinj:∀a b,ek a=ek b->a=b) (ht:P.underlying t=some (.map kt et)) (k:κ) (val:Value) {kl:Lit} (hkey:keyOf P kt (ek k)=some kl)
 (hm:a.eval m= .map (some b)) (hx:a.eval x=ek k) (hv:a.eval v=val)
 (hK:∀w',w.grownBy w' (some b)->w'.heap.size=w.heap.size->(∀(R':World->κ->Value->α->Prop) (a:α),(∀k' u a',k'≠k->R w k' u a'->R' w' k' u a')->R' w' k val a->MapAt P kt ek R' w' b (AL.put l k a))->
  wpList P ops Q rest (a.put o.dst undef) w'):wpList P ops Q (o :: rest) a w:=by
 refine wpList_plain hg fun K' hK'=>?_
 obtain⟨w',hrun,r1,r2,r3⟩:=h.update K hinj ht hkey val;unfold Oper.wp;simp[execOp,hop,hm,hx,hv,hrun,Result.andThen];exact hK' _ _ (hK w' r1 r2 r3)
def ElB(b:Nat)(w:World)(k:Int)(u:Value)(_:Unit):Prop:=
 ∃(f:Nat) (caps:Array Value) (v1 v2:Value) (own:List Nat),u= .agg #[.func (.func f) #[] caps,v1,v2]/\(v1.oneCell'=true/\v2.oneCell'=true)/\(∀args w,(callFunc f args).run prog w= .ok (.enter f args) w)/\
  (∀B0∈own,B0<w.heap.size/\b<B0)/\∀W:World,(∀B0∈own,W.heap[B0]? =w.heap[B0]?)->aEd k f caps W
theorem ElB.keep{b:Nat}{w w':World}{k:Int}{u:Value}{x:Unit}(h:ElB b w k u x)(hg:w.grownBy w' (some b)):ElB b w' k u x:=by
 obtain⟨f,caps,v1,v2,own,hu,hv,he,ho,hd⟩:=h;exact⟨f,caps,v1,v2,own,hu,hv,he,fun B0 hB=>⟨zAL (ho B0 hB).1 hg.size,(ho B0 hB).2⟩,fun W hW=>hd W fun B0 hB=>(hW B0 hB).trans (hg.block B0 (ho B0 hB).1 (fun e=>Nat.lt_irrefl b (by injection e with e;have h9:=(ho B0 hB).2;rw[e]at h9;exact h9)))⟩
theorem ElB.below{b:Nat}{w w':World}{k:Int}{u:Value}{x:Unit}(h:ElB b w k u x)(hb:Below w.heap.size w w'):ElB b w' k u x:=by
 obtain⟨f,caps,v1,v2,own,hu,hv,he,ho,hd⟩:=h;exact⟨f,caps,v1,v2,own,hu,hv,he,fun B0 hB=>⟨zAL (ho B0 hB).1 hb.size,(ho B0 hB).2⟩,fun W hW=>hd W fun B0 hB=>(hW B0 hB).trans (hb.block B0 (ho B0 hB).1)⟩
theorem aK0{b B1:Nat}{w:World}{k:Int}{g:Nat}{v1 v2:Value}(hv:v1.oneCell'=true/\v2.oneCell'=true){T:TypeId}(hB:w.heap[B1]? =some (.cells #[.func (.func g) #[] #[]] T (0,0)))(hne:b<B1)
 (eg:∀args w,(callFunc g args).run prog w= .ok (.enter g args) w) (x:Int->Int->Int)
 (hg:∀(a b:Int) (w:World),Calls prog g #[.int .u32 a, .int .u32 b] w fun e w'=>e= .returned (.int .u32 (x a b % 4294967296))/\w=w') (hx:∀n a b,B.do_ k n a b=some (x a b % B.pw n)):
 ElB b w k (.agg #[.func (.func 233) #[] #[.pointer (some ⟨B1,0,none⟩)],v1,v2]) ():=
 ⟨_,_,_,_, [B1],rfl,hv,enters_of func233 (by kernel_rfl) rfl,fun B0 h=>by rw[zBD.1 h];exact⟨(gA hB).1,hne⟩,
  fun W hW=>bC0 k g B1 W eg x (cell_of_one ((hW B1 (by simp)).trans hB)) (fun a b=>hg a b W) hx⟩
theorem aK1{b B1:Nat}{w:World}{k:Int}{g:Nat}{v1 v2:Value}(hv:v1.oneCell'=true/\v2.oneCell'=true){T:TypeId}(hB:w.heap[B1]? =some (.cells #[.func (.func g) #[] #[]] T (0,0)))(hne:b<B1)
 (eg:∀args w,(callFunc g args).run prog w= .ok (.enter g args) w) (x:Int->Int->Int)
 (hg:∀(a b:Int) (w:World),0<=a->a<4294967296->0<=b->b<4294967296->Calls prog g #[.int .u32 a, .int .u32 b] w fun e w'=>e= .returned (.int .u32 (x a b))/\w=w') (hx:∀n a b,B.do_ k n a b=some (x a b)):
 ElB b w k (.agg #[.func (.func 234) #[] #[.pointer (some ⟨B1,0,none⟩)],v1,v2]) ():=
 ⟨_,_,_,_, [B1],rfl,hv,enters_of func234 (by kernel_rfl) rfl,fun B0 h=>by rw[zBD.1 h];exact⟨(gA hB).1,hne⟩,
  fun W hW=>bC1 k g B1 W eg x (cell_of_one ((hW B1 (by simp)).trans hB)) (fun a b=>hg a b W) hx⟩
theorem aHr{b:Nat}{w:World}{k:Int}{f:Nat}{v1 v2:Value}(hv:v1.oneCell'=true/\v2.oneCell'=true)(eg:∀args w,(callFunc f args).run prog w= .ok (.enter f args) w)(hd:∀W,aEd k f #[] W):
 ElB b w k (.agg #[.func (.func f) #[] #[],v1,v2]) ():=
 ⟨f, #[],v1,v2, [],rfl,hv,eg,fun B0 h=>by simp at h,fun W _=>hd W⟩
end Go.Proofs.YtchdbhggbdcapaaGreat
end
section
namespace Go.Proofs.YtchdbhggbdcapaaGreat
open _root_.Go.Proofs.Tryz
open Go.RowKit Go.Maps Go.Shelf
def OpsAt(b:Nat)(w:World)(l:List (Int×Unit)):Prop:=MapAt prog 3 (Value.int .i64) (ElB b) w b l
theorem OpsAt.below{b:Nat}{w w':World}{l:List (Int×Unit)}(h:OpsAt b w l)(hb:Below w.heap.size w w'):OpsAt b w' l:=
 MapAt.keep h (hb.block b h.lt) fun k u a hu=>hu.below hb
theorem OpsAt.put{b:Nat}{w w':World}{l:List (Int×Unit)}{k:Int}{val:Value}(hg:w.grownBy w' (some b))
 (hput:∀(R':World->Int->Value->Unit->Prop) (a:Unit),(∀k' u a',k'≠k->ElB b w k' u a'->R' w' k' u a')->R' w' k val a->MapAt prog 3 (Value.int .i64) R' w' b (AL.put l k a)) (hv:ElB b w k val ()):OpsAt b w' (AL.put l k ()):=
 hput (ElB b) () (fun _ _ _ _ h=>h.keep hg) (hv.keep hg)
theorem OpsAt.made(w:World):OpsAt w.heap.size (w.alloc (.map #[] 0)) []:=MapAt.made w
theorem aB7{b:Nat}{w0 w w':World}(hb:Below w0.heap.size w0 w)(hB:w0.heap.size<=b)(hg:w.grownBy w' (some b)):Below w0.heap.size w0 w':=hb.grown hg hb.size (fun k e=>by injection e with e;omega)
theorem bEh(k:Int):AL.get (AL.put (AL.put (AL.put (AL.put (AL.put (AL.put (AL.put (AL.put (AL.put (AL.put (AL.put (AL.put (AL.put [] 1 ()) 2 ()) 3 ()) 4 ()) 5 ()) 6 ()) 7 ()) 8 ()) 9 ()) 10 ()) 11 ()) 12 ()) 13 ()) k=if 1<=k/\k<=13 then some ()else none:=by
 have e:(AL.put (AL.put (AL.put (AL.put (AL.put (AL.put (AL.put (AL.put (AL.put (AL.put (AL.put (AL.put (AL.put ([]:List (Int×Unit)) 1 ()) 2 ()) 3 ()) 4 ()) 5 ()) 6 ()) 7 ()) 8 ()) 9 ()) 10 ()) 11 ()) 12 ()) 13 ())= [(1,()),(2,()),(3,()),(4,()),(5,()),(6,()),(7,()),(8,()),(9,()),(10,()),(11,()),(12,()),(13,())]:=by decide
 rw[e]
 by_cases h:1<=k/\k<=13
 ·rw[if_pos h];rcases B.aHe h.1 h.2 with rfl | rfl | rfl | rfl | rfl | rfl | rfl | rfl | rfl | rfl | rfl | rfl | rfl <;> rfl
 ·rw[if_neg h];refine AL.get_none fun p hp e=>h ?_
  simp only[zBF,List.not_mem_nil,or_false]at hp;rcases hp with rfl | rfl | rfl | rfl | rfl | rfl | rfl | rfl | rfl | rfl | rfl | rfl | rfl <;>(subst e;decide)
theorem aO4(w:World):Calls prog 205 #[] w fun e w'=>∃l,e= .returned (.map (some w.heap.size))/\OpsAt w.heap.size w' l/\(∀k,AL.get l k=if 1<=k/\k<=13 then some ()else none)/\Below w.heap.size w w':=by
 have hmm:= @run_makeMap prog;have K:=int_keyed underlying3
 go_enter func205,ntmps205
 go_wp2_with fail
 have ho0:=OpsAt.made w;have hb0:Below w.heap.size w (w.alloc (.map #[] 0)):=al0;refine(aKy _ _ _).mono ?_;rintro e v1 ⟨rfl,hB,hb,hs'⟩;have hB':=hB;rw[World.size_alloc]at hB';have Ho:=kH (ho0.below hb);have Hb:=kH (hb0.trans (hb.mono hb0.size));have hs:w.heap.size<v1.heap.size:=by simp at hs';omega
 clear ho0 hb0 hs';have He1:=kH (aK0 (b:=w.heap.size) (k:=1) (v1:= .func (.func 209) #[] #[]) (v2:= .nilFunc) ⟨rfl,rfl⟩ hB' (by omega) (enters_of func210 (by kernel_rfl) rfl) (fun a b=>a+b) aXx B.do_1);clear hB hB' hb
 go_wp2_with (refine aA7 rfl (.tmp 1) (.const (.int .i64 1)) (.tmp 2) rfl Ho.out K (aBe .i64) underlying229 1 (.agg #[.func (.func 233) #[] #[.pointer (some ⟨w.heap.size+1,0,none⟩)], .func (.func 209) #[] #[], .nilFunc]) (keyOf_int_mk underlying3 rfl) rfl rfl rfl ?_;intro w1 hg hsz hput;replace Ho:=kH (OpsAt.put hg hput (He1.out));replace Hb:=kH (aB7 Hb.out (zBJ _) hg);have hs1:w.heap.size<w1.heap.size:=(by rw[hsz];exact hs);replace hs:=hs1;clear hg hput hsz hs1)
 refine(aKy _ _ _).mono ?_;rintro e v2 ⟨rfl,hB,hb,hs'⟩;have hB':=hB;replace Ho:=kH (Ho.out.below hb);replace Hb:=kH (Hb.out.trans (hb.mono Hb.out.size));have hne:=hs;replace hs:w.heap.size<v2.heap.size:=Nat.lt_trans hs hs';clear hs';have He2:=kH (aK0 (b:=w.heap.size) (k:=2) (v1:= .func (.func 211) #[] #[]) (v2:= .nilFunc) ⟨rfl,rfl⟩ hB' hne (enters_of func212 (by kernel_rfl) rfl) (fun a b=>a-b) aXy B.do_2);clear hB hB' hb hne
 go_wp2_with (refine aA7 rfl (.tmp 1) (.const (.int .i64 2)) (.tmp 3) rfl Ho.out K (aBe .i64) underlying229 2 (.agg #[.func (.func 233) #[] #[.pointer (some ⟨w1.heap.size,0,none⟩)], .func (.func 211) #[] #[], .nilFunc]) (keyOf_int_mk underlying3 rfl) rfl rfl rfl ?_;intro w2 hg hsz hput;replace Ho:=kH (OpsAt.put hg hput (He2.out));replace Hb:=kH (aB7 Hb.out (zBJ _) hg);have hs2:w.heap.size<w2.heap.size:=(by rw[hsz];exact hs);replace hs:=hs2;clear hg hput hsz hs2)
 refine(aKy _ _ _).mono ?_;rintro e v3 ⟨rfl,hB,hb,hs'⟩;have hB':=hB;replace Ho:=kH (Ho.out.below hb);replace Hb:=kH (Hb.out.trans (hb.mono Hb.out.size));have hne:=hs;replace hs:w.heap.size<v3.heap.size:=Nat.lt_trans hs hs';clear hs';have He3:=kH (aK0 (b:=w.heap.size) (k:=3) (v1:= .func (.func 213) #[] #[]) (v2:= .nilFunc) ⟨rfl,rfl⟩ hB' hne (enters_of func214 (by kernel_rfl) rfl) (fun a b=>a*b) aXz B.do_3);clear hB hB' hb hne
 go_wp2_with (first |(refine aA7 rfl (.tmp 1) (.const (.int .i64 3)) (.tmp 4) rfl Ho.out K (aBe .i64) underlying229 3 (.agg #[.func (.func 233) #[] #[.pointer (some ⟨w2.heap.size,0,none⟩)], .func (.func 213) #[] #[], .nilFunc]) (keyOf_int_mk underlying3 rfl) rfl rfl rfl ?_;intro w3 hg hsz hput;replace Ho:=kH (OpsAt.put hg hput (He3.out));replace Hb:=kH (aB7 Hb.out (zBJ _) hg);have hs3:w.heap.size<w3.heap.size:=(by rw[hsz];exact hs);replace hs:=hs3;clear hg hput hsz hs3) |(refine aA7 rfl (.tmp 1) (.const (.int .i64 4)) (.tmp 5) rfl Ho.out K (aBe .i64) underlying229 4 (.agg #[.func (.func 215) #[] #[], .nilFunc, .func (.func 216) #[] #[]]) (keyOf_int_mk underlying3 rfl) rfl rfl rfl ?_;intro w4 hg hsz hput;replace Ho:=kH (OpsAt.put hg hput (aHr (b:=w.heap.size) (k:=4) (v1:= .nilFunc) (v2:= .func (.func 216) #[] #[]) ⟨rfl,rfl⟩ (enters_of func215 (by kernel_rfl) rfl) does4));replace Hb:=kH (aB7 Hb.out (zBJ _) hg);have hs4:w.heap.size<w4.heap.size:=(by rw[hsz];exact hs);replace hs:=hs4;clear hg hput hsz hs4) |(refine aA7 rfl (.tmp 1) (.const (.int .i64 5)) (.tmp 6) rfl Ho.out K (aBe .i64) underlying229 5 (.agg #[.func (.func 217) #[] #[], .nilFunc, .nilFunc]) (keyOf_int_mk underlying3 rfl) rfl rfl rfl ?_;intro w5 hg hsz hput;replace Ho:=kH (OpsAt.put hg hput (aHr (b:=w.heap.size) (k:=5) (v1:= .nilFunc) (v2:= .nilFunc) ⟨rfl,rfl⟩ (enters_of func217 (by kernel_rfl) rfl) does5));replace Hb:=kH (aB7 Hb.out (zBJ _) hg);have hs5:w.heap.size<w5.heap.size:=(by rw[hsz];exact hs);replace hs:=hs5;clear hg hput hsz hs5) |(refine aA7 rfl (.tmp 1) (.const (.int .i64 6)) (.tmp 7) rfl Ho.out K (aBe .i64) underlying229 6 (.agg #[.func (.func 218) #[] #[], .nilFunc, .func (.func 220) #[] #[]]) (keyOf_int_mk underlying3 rfl) rfl rfl rfl ?_;intro w6 hg hsz hput;replace Ho:=kH (OpsAt.put hg hput (aHr (b:=w.heap.size) (k:=6) (v1:= .nilFunc) (v2:= .func (.func 220) #[] #[]) ⟨rfl,rfl⟩ (enters_of func218 (by kernel_rfl) rfl) does6));replace Hb:=kH (aB7 Hb.out (zBJ _) hg);have hs6:w.heap.size<w6.heap.size:=(by rw[hsz];exact hs);replace hs:=hs6;clear hg hput hsz hs6) |(refine aA7 rfl (.tmp 1) (.const (.int .i64 7)) (.tmp 8) rfl Ho.out K (aBe .i64) underlying229 7 (.agg #[.func (.func 221) #[] #[], .nilFunc, .nilFunc]) (keyOf_int_mk underlying3 rfl) rfl rfl rfl ?_;intro w7 hg hsz hput;replace Ho:=kH (OpsAt.put hg hput (aHr (b:=w.heap.size) (k:=7) (v1:= .nilFunc) (v2:= .nilFunc) ⟨rfl,rfl⟩ (enters_of func221 (by kernel_rfl) rfl) does7));replace Hb:=kH (aB7 Hb.out (zBJ _) hg);have hs7:w.heap.size<w7.heap.size:=(by rw[hsz];exact hs);replace hs:=hs7;clear hg hput hsz hs7))
 refine(aKz _ _).mono ?_;rintro e v8 ⟨rfl,hB,hb,hs'⟩;have hB':=hB;replace Ho:=kH (Ho.out.below hb);replace Hb:=kH (Hb.out.trans (hb.mono Hb.out.size));have hne:=hs;replace hs:w.heap.size<v8.heap.size:=Nat.lt_trans hs hs';clear hs';have He8:=kH (aK1 (b:=w.heap.size) (k:=8) (v1:= .nilFunc) (v2:= .nilFunc) ⟨rfl,rfl⟩ hB' hne (enters_of func223 (by kernel_rfl) rfl) (fun a b=>((a.toNat &&& b.toNat:Nat):Int)) aX0 B.do_8);clear hB hB' hb hne
 go_wp2_with (refine aA7 rfl (.tmp 1) (.const (.int .i64 8)) (.tmp 9) rfl Ho.out K (aBe .i64) underlying229 8 (.agg #[.func (.func 234) #[] #[.pointer (some ⟨w7.heap.size,0,none⟩)], .nilFunc, .nilFunc]) (keyOf_int_mk underlying3 rfl) rfl rfl rfl ?_;intro w8 hg hsz hput;replace Ho:=kH (OpsAt.put hg hput (He8.out));replace Hb:=kH (aB7 Hb.out (zBJ _) hg);have hs8:w.heap.size<w8.heap.size:=(by rw[hsz];exact hs);replace hs:=hs8;clear hg hput hsz hs8)
 refine(aKz _ _).mono ?_;rintro e v9 ⟨rfl,hB,hb,hs'⟩;have hB':=hB;replace Ho:=kH (Ho.out.below hb);replace Hb:=kH (Hb.out.trans (hb.mono Hb.out.size));have hne:=hs;replace hs:w.heap.size<v9.heap.size:=Nat.lt_trans hs hs';clear hs';have He9:=kH (aK1 (b:=w.heap.size) (k:=9) (v1:= .nilFunc) (v2:= .nilFunc) ⟨rfl,rfl⟩ hB' hne (enters_of func224 (by kernel_rfl) rfl) (fun a b=>((a.toNat ||| b.toNat:Nat):Int)) aX1 B.do_9);clear hB hB' hb hne
 go_wp2_with (refine aA7 rfl (.tmp 1) (.const (.int .i64 9)) (.tmp 10) rfl Ho.out K (aBe .i64) underlying229 9 (.agg #[.func (.func 234) #[] #[.pointer (some ⟨w8.heap.size,0,none⟩)], .nilFunc, .nilFunc]) (keyOf_int_mk underlying3 rfl) rfl rfl rfl ?_;intro w9 hg hsz hput;replace Ho:=kH (OpsAt.put hg hput (He9.out));replace Hb:=kH (aB7 Hb.out (zBJ _) hg);have hs9:w.heap.size<w9.heap.size:=(by rw[hsz];exact hs);replace hs:=hs9;clear hg hput hsz hs9)
 refine(aKz _ _).mono ?_;rintro e v10 ⟨rfl,hB,hb,hs'⟩;have hB':=hB;replace Ho:=kH (Ho.out.below hb);replace Hb:=kH (Hb.out.trans (hb.mono Hb.out.size));have hne:=hs;replace hs:w.heap.size<v10.heap.size:=Nat.lt_trans hs hs';clear hs';have He10:=kH (aK1 (b:=w.heap.size) (k:=10) (v1:= .nilFunc) (v2:= .nilFunc) ⟨rfl,rfl⟩ hB' hne (enters_of func225 (by kernel_rfl) rfl) (fun a b=>((a.toNat ^^^ b.toNat:Nat):Int)) aUr B.do_10);clear hB hB' hb hne
 go_wp2_with (first |(refine aA7 rfl (.tmp 1) (.const (.int .i64 10)) (.tmp 11) rfl Ho.out K (aBe .i64) underlying229 10 (.agg #[.func (.func 234) #[] #[.pointer (some ⟨w9.heap.size,0,none⟩)], .nilFunc, .nilFunc]) (keyOf_int_mk underlying3 rfl) rfl rfl rfl ?_;intro w10 hg hsz hput;replace Ho:=kH (OpsAt.put hg hput (He10.out));replace Hb:=kH (aB7 Hb.out (zBJ _) hg);have hs10:w.heap.size<w10.heap.size:=(by rw[hsz];exact hs);replace hs:=hs10;clear hg hput hsz hs10) |(refine aA7 rfl (.tmp 1) (.const (.int .i64 11)) (.tmp 12) rfl Ho.out K (aBe .i64) underlying229 11 (.agg #[.func (.func 226) #[] #[], .func (.func 227) #[] #[], .nilFunc]) (keyOf_int_mk underlying3 rfl) rfl rfl rfl ?_;intro w11 hg hsz hput;replace Ho:=kH (OpsAt.put hg hput (aHr (b:=w.heap.size) (k:=11) (v1:= .func (.func 227) #[] #[]) (v2:= .nilFunc) ⟨rfl,rfl⟩ (enters_of func226 (by kernel_rfl) rfl) bFo));replace Hb:=kH (aB7 Hb.out (zBJ _) hg);have hs11:w.heap.size<w11.heap.size:=(by rw[hsz];exact hs);replace hs:=hs11;clear hg hput hsz hs11) |(refine aA7 rfl (.tmp 1) (.const (.int .i64 12)) (.tmp 13) rfl Ho.out K (aBe .i64) underlying229 12 (.agg #[.func (.func 228) #[] #[], .nilFunc, .func (.func 229) #[] #[]]) (keyOf_int_mk underlying3 rfl) rfl rfl rfl ?_;intro w12 hg hsz hput;replace Ho:=kH (OpsAt.put hg hput (aHr (b:=w.heap.size) (k:=12) (v1:= .nilFunc) (v2:= .func (.func 229) #[] #[]) ⟨rfl,rfl⟩ (enters_of func228 (by kernel_rfl) rfl) bFp));replace Hb:=kH (aB7 Hb.out (zBJ _) hg);have hs12:w.heap.size<w12.heap.size:=(by rw[hsz];exact hs);replace hs:=hs12;clear hg hput hsz hs12) |(refine aA7 rfl (.tmp 1) (.const (.int .i64 13)) (.tmp 14) rfl Ho.out K (aBe .i64) underlying229 13 (.agg #[.func (.func 230) #[] #[], .nilFunc, .func (.func 232) #[] #[]]) (keyOf_int_mk underlying3 rfl) rfl rfl rfl ?_;intro w13 hg hsz hput;replace Ho:=kH (OpsAt.put hg hput (aHr (b:=w.heap.size) (k:=13) (v1:= .nilFunc) (v2:= .func (.func 232) #[] #[]) ⟨rfl,rfl⟩ (enters_of func230 (by kernel_rfl) rfl) bFq));replace Hb:=kH (aB7 Hb.out (zBJ _) hg);have hs13:w.heap.size<w13.heap.size:=(by rw[hsz];exact hs);replace hs:=hs13;clear hg hput hsz hs13))
 go_ret;exact⟨_,rfl,Ho.out,bEh,Hb.out⟩
end Go.Proofs.YtchdbhggbdcapaaGreat
end
section
namespace Go.Proofs.YtchdbhggbdcapaaGreat
open _root_.Go.Proofs.Tryz
open Go.RowKit Go.Maps Go.Shelf
theorem bAb(w:World):(zeroValue 214).run prog w= .ok (.agg #[.nilFunc, .nilFunc, .nilFunc]) w:=by kernel_rfl
theorem bC2(n a b:Int)(p:Nat)(w:World)(h0:w.cell? ⟨p,0,none⟩=some (.int .u32 a))(h1:w.cell? ⟨p,1,none⟩=some (.int .u32 b)):
 Calls prog 189 #[.int .i64 n, .slice (some ⟨p,0,none⟩) 2 2] w fun e w'=>e= .returned (.bool (B.isW n a && B.isW n b))/\w=w':=by
 have hs:SlAt (IntR .u32) w (some ⟨p,0,none⟩) 2 [a,b]:=by
  refine⟨rfl,by omega,fun k x hx=>?_⟩;have hlt:=World.block_lt_of_cell? _ _ h0
  match k,hx with
  | 0,hx=>cases hx;exact⟨_,_,_,rfl,hlt,h0,rfl⟩
  | 1,hx=>cases hx;exact⟨_,_,_,rfl,hlt,h1,rfl⟩
  | k+2,hx=>simp at hx
 refine(aL5 n _ 2 2 [a,b] w hs).mono fun e w' ⟨he,hw⟩=>⟨he.trans (aA0 ?_),hw⟩
 simp only[B.isW,List.all_cons,List.all_nil,Bool.and_true];cases B.isWd n <;> simp
theorem bAc{b:Nat}{w w':World}{k:Int}{u:Value}{x:Unit}(h:ElB b w k u x)(hs:w.heap.size<=w'.heap.size)(hb:∀B0,b<B0->B0<w.heap.size->w'.heap[B0]? =w.heap[B0]?):ElB b w' k u x:=by
 obtain⟨f,caps,v1,v2,own,hu,hv,he,ho,hd⟩:=h;exact⟨f,caps,v1,v2,own,hu,hv,he,fun B0 hB=>⟨zAL (ho B0 hB).1 hs,(ho B0 hB).2⟩,fun W hW=>hd W fun B0 hB=>(hW B0 hB).trans (hb B0 (ho B0 hB).2 (ho B0 hB).1)⟩
theorem bAd(w:World)(p B0:Nat)(u0 u1 u2:Value)(h:B0≠p):(((w.setCell ⟨p,0,none⟩ u0).setCell ⟨p,1,none⟩ u1).setCell ⟨p,2,none⟩ u2).heap[B0]? =w.heap[B0]? :=by
 rw[Below.heap_setCell _ _ _ _ h,Below.heap_setCell _ _ _ _ h,Below.heap_setCell _ _ _ _ h]
theorem bAe(op n a b:Int)(w:World)(hop:(Lit.int .i64 op).wf=true):Calls prog 191 #[.int .i64 op, .int .i64 n, .int .u32 a, .int .u32 b] w fun e w'=>
 ∃u:Value,e= .returned (.tuple #[u, .bool (B.okOp op n a b)])/\Below w.heap.size w w'/\w.heap.size<w'.heap.size/\((B.okOp op n a b=true/\∃bm,ElB bm w' op u ())\/B.okOp op n a b=false/\∃u0 u1 u2,u= .agg #[u0,u1,u2]/\u0.oneCell'=true/\u1.oneCell'=true/\u2.oneCell'=true):=by
 have HO:=kH (fun W=>aO4 W);have HF:=kH (fun p W h0 h1=>bC2 n a b p W h0 h1);have K:=int_keyed underlying3;have facts:∀w1:World,Below (w.alloc (.cells #[.nilFunc, .nilFunc, .nilFunc] 214)).heap.size (w.alloc (.cells #[.nilFunc, .nilFunc, .nilFunc] 214)) w1->
  w1.cell? ⟨w.heap.size,0,none⟩=some .nilFunc/\w1.cell? ⟨w.heap.size,1,none⟩=some .nilFunc/\w1.cell? ⟨w.heap.size,2,none⟩=some .nilFunc/\(∀j,w1.frozen? ⟨w.heap.size,j,none⟩=false)/\w.heap.size<w1.heap.size:=fun w1 hb=>
  ⟨(hb.cell (p := ⟨w.heap.size, 0, none⟩) (by simp)).trans (by rw [cell_of_row _ _ _ _ _ (0, 0) (heap_alloc_new w _)]; rfl), (hb.cell (p := ⟨w.heap.size, 1, none⟩) (by simp)).trans (by rw [cell_of_row _ _ _ _ _ (0, 0) (heap_alloc_new w _)]; rfl),
    (hb.cell (p:=⟨w.heap.size,2,none⟩) (by simp)).trans (by rw[cell_of_row _ _ _ _ _ (0,0) (heap_alloc_new w _)];rfl),fun j=>(hb.frozen (p:=⟨w.heap.size,j,none⟩) (by simp)).trans (by simp[go_sem]),by have:=hb.size;simp at this;omega⟩
 have Hfacts:=kH facts;clear facts
 by_cases hk:1<=op/\op<=13
 ·go_enter func191,ntmps191
  go_wp2_with fail
  refine(HO.out _).mono ?_;rintro e w1 ⟨l,rfl,ho,hget,hb⟩;obtain⟨u,hl0,hlook,hu⟩:=MapAt.lookup ho K (aBe .i64) underlying229 (bAb w1) (k:=op) (keyOf_int_mk underlying3 hop);rw[World.size_alloc]at hlook;rw[hget op,if_pos hk]at hlook hu;rw[show(some ()).isSome=true from rfl]at hlook;have hel:ElB (w.alloc (.cells #[.nilFunc, .nilFunc, .nilFunc] 214)).heap.size w1 op u ():=by
   rcases hu with⟨h,_⟩ |⟨_,_,h⟩
   ·cases h
   ·exact h
  have Hel:=kH hel;obtain⟨f,caps,v1,v2,own,rfl,⟨hv1,hv2⟩,hr0⟩:=hel;have hst1:∀W A m,(store A v1 m).run prog W=stored prog W A v1 m:=fun W A m=>run_store _ W A v1 m hv1
  have hst2:∀W A m,(store A v2 m).run prog W=stored prog W A v2 m:=fun W A m=>run_store _ W A v2 m hv2
  have HV:=kH (And.intro hv1 hv2);clear hv1 hv2 hu hget ho hl0 hr0;obtain⟨hc0,hc1,hc2,hf0,hsz⟩:=Hfacts.out _ hb;have Hb:=kH hb;clear hb;have hret:∀(a':Act) (W:World),a'.tmps.getD 8 undef= .pointer (some ⟨w.heap.size,0,none⟩)->a'.tmps.getD 9 undef= .bool (B.isW n a && B.isW n b)->a'.defers= []->
   W=(((((w1.setCell ⟨w.heap.size,0,none⟩ (.func (.func f) #[] caps)).setCell ⟨w.heap.size,1,none⟩ v1).setCell ⟨w.heap.size,2,none⟩ v2).alloc (.cells #[.func (.func f) #[] caps,v1,v2] 214)).alloc (.cells #[.int .u32 a, .int .u32 b] 45)).drew->
   bodyPost prog Tryz.f191 (fun e w'=>∃u:Value,e= .returned (.tuple #[u, .bool (B.okOp op n a b)])/\Below w.heap.size w w'/\w.heap.size<w'.heap.size/\((B.okOp op n a b=true/\∃bm,ElB bm w' op u ())\/B.okOp op n a b=false/\∃u0 u1 u2,u= .agg #[u0,u1,u2]/\u0.oneCell'=true/\u1.oneCell'=true/\u2.oneCell'=true)) Exit.ret a' W:=by
   intro a' W h8 h9 hd hW;subst hW;rw[Array.getD_eq_getD_getElem?]at h8 h9;have hbig:Below w.heap.size w (((((w1.setCell ⟨w.heap.size,0,none⟩ (.func (.func f) #[] caps)).setCell ⟨w.heap.size,1,none⟩ v1).setCell ⟨w.heap.size,2,none⟩ v2).alloc (.cells #[.func (.func f) #[] caps,v1,v2] 214)).alloc (.cells #[.int .u32 a, .int .u32 b] 45)).drew:=
    ((((((al0).trans (Hb.out.mono (by simp))).setCell (p:=⟨w.heap.size,0,none⟩) (zBJ _) _).setCell (p:=⟨w.heap.size,1,none⟩) (zBJ _) _).setCell (p:=⟨w.heap.size,2,none⟩) (zBJ _) _).alloc (by simp;omega) _).alloc (by simp;omega) _ |>.drew
   refine bodyPost_ret (v:= .tuple #[.agg #[.func (.func f) #[] caps,v1,v2], .bool (B.isW n a && B.isW n b)]) ?_ hd ⟨.agg #[.func (.func f) #[] caps,v1,v2],?_,hbig,by simp;omega,?_⟩
   ·simp[results,Tryz.results191,go_sem,h8,h9,hc0,hc1,hc2,hf0,hsz]
   ·have e:B.okOp op n a b=(B.isW n a && B.isW n b):=by unfold B.okOp;simp[hk.1,hk.2]
    rw[e]
   ·cases hok:B.okOp op n a b
    ·exact .inr ⟨rfl,_,_,_,rfl,rfl,HV.out.1,HV.out.2⟩
    ·refine .inl ⟨rfl,(w.alloc (.cells #[.nilFunc, .nilFunc, .nilFunc] 214)).heap.size,?_⟩;refine bAc Hel.out (by simp;omega) fun B0 h1 h2=>?_
     rw[World.size_alloc]at h1
     show(World.alloc (World.alloc (World.setCell (World.setCell (World.setCell w1 ⟨w.heap.size,0,none⟩ _) ⟨w.heap.size,1,none⟩ _) ⟨w.heap.size,2,none⟩ _) _) _).heap[B0]? =w1.heap[B0]?
     rw[Below.heap_alloc _ _ _ (by simp;omega),Below.heap_alloc _ _ _ (by simp;omega),bAd _ _ _ _ _ _ (by omega)]
  have Hret:=kH hret;clear hret
  go_wp2_with fail
  go_region_with ((go_at_call 189;refine Calls.mono (HF.out _ _ ?_ ?_) ?_;go_simp;go_simp;rintro e w5 ⟨rfl,rfl⟩))
  all_goals go_wp2
  all_goals exact Hret.out _ _ rfl rfl rfl rfl
 ·go_enter func191,ntmps191
  go_wp2_with fail
  refine(HO.out _).mono ?_;rintro e w1 ⟨l,rfl,ho,hget,hb⟩;obtain⟨u,hl0,hlook,hu⟩:=MapAt.lookup ho K (aBe .i64) underlying229 (bAb w1) (k:=op) (keyOf_int_mk underlying3 hop);rw[World.size_alloc]at hlook;rw[hget op,if_neg hk]at hlook hu;rw[show(none:Option Unit).isSome=false from rfl]at hlook;obtain rfl:u= .agg #[.nilFunc, .nilFunc, .nilFunc]:=by
   rcases hu with⟨_,h⟩ |⟨_,h,_⟩
   ·exact h
   ·cases h
  clear hu hget ho hl0;obtain⟨hc0,hc1,hc2,hf0,hsz⟩:=Hfacts.out _ hb;have Hb:=kH hb;clear hb;have Hk:=kH hk;clear hk
  go_wp2_with fail
  go_big_region
  all_goals go_wp2
  all_goals
   have hbig:Below w.heap.size w ((((w1.setCell ⟨w.heap.size,0,none⟩ .nilFunc).setCell ⟨w.heap.size,1,none⟩ .nilFunc).setCell ⟨w.heap.size,2,none⟩ .nilFunc).alloc (.cells #[.nilFunc, .nilFunc, .nilFunc] 214)).drew:=
    ((((((al0).trans (Hb.out.mono (by simp))).setCell (p:=⟨w.heap.size,0,none⟩) (zBJ _) _).setCell (p:=⟨w.heap.size,1,none⟩) (zBJ _) _).setCell (p:=⟨w.heap.size,2,none⟩) (zBJ _) _).alloc (by simp;omega) _).drew
   refine bodyPost_ret (v:= .tuple #[.agg #[.nilFunc, .nilFunc, .nilFunc], .bool false]) ?_ rfl ⟨.agg #[.nilFunc, .nilFunc, .nilFunc],?_,hbig,by simp;omega,?_⟩
   ·simp[results,Tryz.results191,go_sem,hc0,hc1,hc2,hf0,hsz]
   ·have e:B.okOp op n a b=false:=by
     have h1:(decide (1<=op) && decide (op<=13))=false:=by
      have:=Hk.out
      by_cases h:1<=op
      ·have:¬op<=13:=fun h'=>this ⟨h,h'⟩
       simp[this]
      ·simp[h]
     unfold B.okOp;rw[h1];rfl
    rw[e]
   ·refine .inr ⟨?_,_,_,_,rfl,rfl,rfl,rfl⟩;have h1:(decide (1<=op) && decide (op<=13))=false:=by
     have:=Hk.out
     by_cases h:1<=op
     ·have:¬op<=13:=fun h'=>this ⟨h,h'⟩
      simp[this]
     ·simp[h]
    unfold B.okOp;rw[h1];rfl
end Go.Proofs.YtchdbhggbdcapaaGreat
end
section
namespace Go.Proofs.YtchdbhggbdcapaaGreat
open _root_.Go.Proofs.Tryz
open Go.RowKit Go.Maps Go.Shelf
theorem bAf(op n a b:Int)(w:World)(hop:(Lit.int .i64 op).wf=true)(ha:0<=a)(hb:0<=b):Calls prog 146 #[.int .i64 op, .int .i64 n, .int .u32 a, .int .u32 b] w fun e w'=>
 e= .returned (.tuple #[.int .u32 (B.total op n a b).1, .int .i64 (B.total op n a b).2])/\Below w.heap.size w w':=by
 have HA:=kH (bAe op n a b w hop);cases hok:B.okOp op n a b
 ·have ht:B.total op n a b=(0,1):=by unfold B.total;rw[if_neg (by rw[hok];simp)]
  rw[hok]at HA;rw[ht];clear ht hok
  go_enter func146,ntmps146
  go_wp2_with fail
  refine HA.out.mono ?_;rintro e w1 ⟨u,rfl,hbw,hsz,hcase⟩;obtain⟨u0,u1,u2,rfl,h0,h1,h2⟩:∃u0 u1 u2,u= .agg #[u0,u1,u2]/\u0.oneCell'=true/\u1.oneCell'=true/\u2.oneCell'=true:=by
   rcases hcase with⟨h,_⟩ |⟨_,h⟩
   ·cases h
   ·exact h
  have hst0:∀W A m,(store A u0 m).run prog W=stored prog W A u0 m:=fun W A m=>run_store _ W A u0 m h0
  have hst1:∀W A m,(store A u1 m).run prog W=stored prog W A u1 m:=fun W A m=>run_store _ W A u1 m h1
  have hst2:∀W A m,(store A u2 m).run prog W=stored prog W A u2 m:=fun W A m=>run_store _ W A u2 m h2
  clear h0 h1 h2 hcase;go_wp2;go_ret2;exact⟨rfl,hbw.alloc hbw.size _⟩
 ·have ht:B.total op n a b=(B.full op n a b,0):=by unfold B.total;rw[if_pos hok]
  have hw:B.Wds n a b:=by
   unfold B.okOp at hok;simp only[Bool.and_eq_true,B.aG0,zBQ]at hok;obtain⟨⟨_,h1,h2,h3⟩,_,_,h4⟩:=hok;exact⟨h1,h2,ha,h3,hb,h4⟩
  rw[hok]at HA;have Ht:=kH ht;clear ht;have Hok:=kH hok;clear hok;have Hw:=kH hw;clear hw;rw[Ht.out]
  go_enter func146,ntmps146
  go_wp2_with fail
  refine HA.out.mono ?_;rintro e w1 ⟨u,rfl,hbw,hsz,hcase⟩;obtain⟨bm,hel⟩:∃bm,ElB bm w1 op u ():=by
   rcases hcase with⟨_,h⟩ |⟨h,_⟩
   ·exact h
   ·cases h
  obtain⟨f,caps,v1,v2,own,rfl,⟨hv1,hv2⟩,eg,ho,hd⟩:=hel;have hst1:∀W A m,(store A v1 m).run prog W=stored prog W A v1 m:=fun W A m=>run_store _ W A v1 m hv1
  have hst2:∀W A m,(store A v2 m).run prog W=stored prog W A v2 m:=fun W A m=>run_store _ W A v2 m hv2
  have con:=hd (w1.alloc (.cells #[.func (.func f) #[] caps,v1,v2] 214)) (fun B0 hB=>Below.heap_alloc _ _ _ (ho B0 hB).1) n a b Hw.out;have Hcon:=kH con;clear con;clear hv1 hv2 hcase ho hd
  go_wp2_with fail
  refine Hcon.out.mono ?_;rintro e w2 ⟨rfl,hdr⟩;go_wp2;go_ret2;exact⟨rfl,(hbw.alloc hbw.size _).dr hdr⟩
end Go.Proofs.YtchdbhggbdcapaaGreat
end
end
