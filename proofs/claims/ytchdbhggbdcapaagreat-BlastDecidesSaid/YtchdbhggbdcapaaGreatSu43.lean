/- Part. -/
import Derived.Test.YtchdbhggbdcapaaGreatSuLX
import Derived.Test.YtchdbhggbdcapaaGreatSu42
set_option linter.unusedVariables false
set_option linter.unusedSimpArgs false
set_option maxRecDepth 100000
set_option maxHeartbeats 16000000
namespace Go.Proofs.YtchdbhggbdcapaaGreat
open _root_.Go.Proofs.Tryz
section
open Go.RowKit Go.MapKept Go.Maps Go.WideMaps
theorem CtAt.bel{w w':World}{tg:TgF}{Cb Bb Wb n:Nat}{vars words:List (List Int)}(h:CtAt w tg Cb Bb Wb n vars words)(hb:Below w.heap.size w w'):CtAt w' tg Cb Bb Wb n vars words:=by
 obtain⟨us,l1,r1,k1⟩:=h.row;obtain⟨vs,l2,r2,k2⟩:=h.wrow;refine⟨⟨us,l1,(hb.block _ h.ltC).trans r1,fun i l hi=>?_⟩,⟨vs,l2,(hb.block _ h.ltW).trans r2,fun i l hi=>?_⟩,h.tC,h.tW⟩
 ·obtain⟨v,e,A,c,e2,q⟩:=k1 i l hi;exact⟨v,e,A,c,e2,q.bel hb⟩
 ·obtain⟨v,e,A,c,e2,q⟩:=k2 i l hi;exact⟨v,e,A,c,e2,q.bel hb⟩
end
end Go.Proofs.YtchdbhggbdcapaaGreat
