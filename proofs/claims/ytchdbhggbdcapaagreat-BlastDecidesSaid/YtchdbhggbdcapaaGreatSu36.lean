/- Part. -/
import Derived.Test.YtchdbhggbdcapaaGreatSuLX
import Derived.Test.YtchdbhggbdcapaaGreatSu35
set_option linter.unusedVariables false
set_option linter.unusedSimpArgs false
set_option maxRecDepth 100000
set_option maxHeartbeats 16000000
section
namespace Go.Proofs.YtchdbhggbdcapaaGreat.C
open S
open T (Nd)
section
variable {cs : List (List Int)} {given : List Int} {s : Int -> Bool}
theorem bCm(hn:∀l,l≠0->s (-l)= !s l)(hc:∀c∈cs,(∀l∈c,l≠0)/\∃l∈c,s l=true){x:List Int}(hx:∀l∈x,l≠0)(h:fol cs x=true):∃l∈x,s l=true:=by
 apply zAI;intro hno;refine aN6 hn hc (fun l hl=>?_) (aEi.1 h);obtain⟨m,hm,rfl⟩:=zBU.1 hl;have h1:=hx m hm;refine⟨by omega,?_⟩;rw[hn m h1];cases e:s m
 ·rfl
 ·exact absurd ⟨m,hm,e⟩ hno
theorem aS3(hn:∀l,l≠0->s (-l)= !s l):∀(l:List (List Int)) (cs:List (List Int)),(∀c∈cs,(∀l∈c,l≠0)/\∃l∈c,s l=true)->(∀c∈l,∀m∈c,m≠0)->bad cs l=none->∀c∈l,∃m∈c,s m=true
 | [],_,_,_,_,c,hc=>by cases hc
 | x :: r,cs,hc,hl,h,c,hcm=>by
  rw[bad]at h;split at h
  ·rename_i hf;have hx:=bCm hn hc (hl x (List.mem_cons_self ..)) hf;have h2:bad (cs ++ [x]) r=none:=by simpa using h
   rcases zBF.1 hcm with rfl | hm
   ·exact hx
   ·refine aS3 hn r (cs ++ [x]) (fun c hc'=>?_) (fun c hc'=>hl c (zAQ _ hc')) h2 c hm;rcases zBE.1 hc' with hc' | hc'
    ·exact hc c hc'
    ·rw[zBD.1 hc'];exact⟨hl x (List.mem_cons_self ..),hx⟩
  ·cases h
theorem aJw(hn:∀l,l≠0->s (-l)= !s l)(hc:∀c∈cs,(∀l∈c,l≠0)/\∃l∈c,s l=true){l:List (List Int)}(hl:∀c∈l,∀m∈c,m≠0)(h:S.aBg cs l=none):False:=by
 unfold S.aBg at h;split at h
 ·cases h
 ·rename_i hb;split at h
  ·rename_i hlast;have hm:([]:List Int)∈l:=List.mem_of_getLast? hlast;obtain⟨m,hm,_⟩:=aS3 hn l cs hc hl hb [] hm;cases hm
  ·cases h
end
end Go.Proofs.YtchdbhggbdcapaaGreat.C
end
