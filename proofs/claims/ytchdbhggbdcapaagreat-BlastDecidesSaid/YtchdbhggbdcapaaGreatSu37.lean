/- Part. -/
import Derived.Test.YtchdbhggbdcapaaGreatSuLX
import Derived.Test.YtchdbhggbdcapaaGreatSu36
set_option linter.unusedVariables false
set_option linter.unusedSimpArgs false
set_option maxRecDepth 100000
set_option maxHeartbeats 16000000
section
namespace Go.Proofs.YtchdbhggbdcapaaGreat.C
open S
open T (Nd)
section
variable {t : List Nd} {c : Circ}
theorem Says.proved(h:Says t c)(h1:aBw t=1){l:List (List Int)}(hl:∀k∈l,isClause c.b.n k=true)(hf:S.aBg (aAl c (-1)) l=none)(e:E):lsem c.b c.root e=true:=by
 apply zAI;intro hno;have hr:=h.root_lit h1;refine aJw (s:=fun l=>lsem c.b l e) (cs:=aAl c (-1)) (fun l hl=>aAn c.b hl e) (fun k hk=>?_) (fun k hk=>aD4 (hl k hk)) hf;rcases zBE.1 hk with hk | hk
 ·exact⟨aD4 (h.ok.lits k hk),h.ok.sat e k hk⟩
 ·rw[zBD.1 hk];have h0:=aAc hr;have e1:(-1:Int)*c.root= -c.root:=by omega
  rw[e1];refine⟨fun l hl=>by rw[zBD.1 hl];omega,-c.root,zBD.2 rfl,?_⟩
  show lsem c.b (-c.root) e=true
  rw[aAn c.b h0];simpa using hno
end
end Go.Proofs.YtchdbhggbdcapaaGreat.C
end
