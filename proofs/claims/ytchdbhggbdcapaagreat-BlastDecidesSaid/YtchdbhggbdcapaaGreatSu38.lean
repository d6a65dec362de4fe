/- Part. -/
import Derived.Test.YtchdbhggbdcapaaGreatSuLX
import Derived.Test.YtchdbhggbdcapaaGreatSu37
import Derived.Test.YtchdbhggbdcapaaGreatSu28
set_option linter.unusedVariables false
set_option linter.unusedSimpArgs false
set_option maxRecDepth 100000
set_option maxHeartbeats 16000000
namespace Go.Proofs.YtchdbhggbdcapaaGreat
open _root_.Go.Proofs.Tryz
section
open Go.RowKit
theorem aH7{t:List T.Nd}{c:C.Circ}{l:List (List Int)}(hc:aAb t=0)(hi:∀y∈t,0<=y.imm)(hb:C.build t=some c)(hf:S.aBg (C.aAl c (-1)) l=none)(hk:∀k∈l,S.isClause c.b.n k=true):C.cntTo t (C.nEnv t)=C.nEnv t:=by
 have hs:=aFi hc hi hb;have h1:=(aBa hc).2;exact(hs.valid_iff h1).1 (hs.proved h1 hk hf)
end
end Go.Proofs.YtchdbhggbdcapaaGreat
