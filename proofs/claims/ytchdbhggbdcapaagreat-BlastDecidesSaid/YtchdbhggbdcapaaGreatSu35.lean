/- Part. -/
import Derived.Test.YtchdbhggbdcapaaGreatSuLX
import Derived.Test.YtchdbhggbdcapaaGreatSu09
set_option linter.unusedVariables false
set_option linter.unusedSimpArgs false
set_option maxRecDepth 100000
set_option maxHeartbeats 16000000
section
namespace Go.Proofs.YtchdbhggbdcapaaGreat.C
open S
open T (Nd)
section
variable {cs : List (List Int)} {given : List Int} {s : Int -> Bool}
theorem aN6(hn:∀l,l≠0->s (-l)= !s l)(hc:∀c∈cs,(∀l∈c,l≠0)/\∃l∈c,s l=true)(hg:∀l∈given,l≠0/\s l=true):¬aA2 cs given:=by
 have hd:=fun{l:Int} (h:Der cs given l)=>aMa hn hc (fun l hl=>(hg l hl).2) h
 have hz:∀{l:Int},Der cs given l->l≠0:=fun h=>by
  cases h with
  | given_ h=>exact(hg _ h).1
  | unit_ h1 h2 _=>exact(hc _ h1).1 _ h2
 rintro(⟨l,h1,h2⟩ |⟨c,h1,h2⟩)
 ·have a1:=hd h1;have a2:=hd h2;rw[hn l (hz h1),a1]at a2;cases a2
 ·obtain⟨h4,m,hm,hsm⟩:=hc c h1;have:=hd (h2 m hm);rw[hn m (h4 m hm),hsm]at this;cases this
end
end Go.Proofs.YtchdbhggbdcapaaGreat.C
end
