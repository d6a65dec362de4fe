/- Part. -/
import Derived.Test.YtchdbhggbdcapaaGreatSuLX
import Derived.Test.YtchdbhggbdcapaaGreatSu39
set_option linter.unusedVariables false
set_option linter.unusedSimpArgs false
set_option maxRecDepth 100000
set_option maxHeartbeats 16000000
namespace Go.Proofs.YtchdbhggbdcapaaGreat
open _root_.Go.Proofs.Tryz
section
theorem aUp:aAb lt2=0:=by decide +kernel
end
section
open Go.RowKit
theorem aAt(W:World):Calls prog 11 #[] W fun e W'=>e= .returned (.bool true)/\Below W.heap.size W W':=
 aS0 (fun A X h=>aXu lt2 3 3 A X h (by decide) aUp (by decide)) W
end
end Go.Proofs.YtchdbhggbdcapaaGreat
