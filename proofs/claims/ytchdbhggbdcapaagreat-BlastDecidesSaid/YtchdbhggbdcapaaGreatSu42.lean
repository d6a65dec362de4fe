/- Part. -/
import Derived.Test.YtchdbhggbdcapaaGreatSuLX
import Derived.Test.YtchdbhggbdcapaaGreatSu20
set_option linter.unusedVariables false
set_option linter.unusedSimpArgs false
set_option maxRecDepth 100000
set_option maxHeartbeats 16000000
namespace Go.Proofs.YtchdbhggbdcapaaGreat
open _root_.Go.Proofs.Tryz
section
open Go.RowKit Go.MapKept Go.Maps Go.WideMaps
theorem WdAt.bel{w w':World}{tg:TgF}{A:Option Addr}{c:Nat}{l:List Int}(h:WdAt w tg A c l)(hb:Below w.heap.size w w'):WdAt w' tg A c l:=⟨h.1.below hb h.1.lt,h.2⟩
end
end Go.Proofs.YtchdbhggbdcapaaGreat
