/- Part. -/
import Derived.Test.YtchdbhggbdcapaaGreatSuLX
import Derived.Test.YtchdbhggbdcapaaGreatSu09
set_option linter.unusedVariables false
set_option linter.unusedSimpArgs false
set_option maxRecDepth 100000
set_option maxHeartbeats 16000000
section
namespace Go.Proofs.YtchdbhggbdcapaaGreat.C
open S
open T (Nd)
theorem aGy(t:List Nd):∀n,cntTo t n=0↔∀k,k<n->rv t (envK (T.aAa t) k)≠1
 | 0=>⟨fun _ k hk=>by omega,fun _=>rfl⟩
 | n+1=>by
  have ih:=aGy t n;rw[cntTo];constructor
  ·intro h k hk;split at h
   ·omega
   ·rename_i he;rcases Nat.lt_or_ge k n with hk' | hk'
    ·exact ih.1 (by omega) k hk'
    ·obtain rfl:k=n:=by omega
     exact he
  ·intro h;rw[if_neg (h n (by omega)),ih.2 fun k hk=>h k (by omega)]
section
variable {t : List Nd} {c : Circ}
theorem Says.none_iff(h:Says t c)(h1:aBw t=1):(∀e,lsem c.b c.root e=false)↔cntTo t (nEnv t)=0:=by
 rw[aGy];constructor
 ·intro hv k hk;rw[<-aKg,h.bit0 h1,if_neg (by rw[hv];simp)];decide
 ·intro hv e;obtain⟨k,hk,he⟩:=aHw t e;have:=hv k hk;rw[<-he,h.bit0 h1]at this;apply zAI;intro hn;rw[if_pos (by simpa using hn)]at this;exact this rfl
end
end Go.Proofs.YtchdbhggbdcapaaGreat.C
end
