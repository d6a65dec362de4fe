/- Part. -/
import Derived.Test.YtchdbhggbdcapaaGreatSuLX
import Derived.Shelf.Slices.CompactI
import Derived.Shelf.Slices.In.SortNone
import Derived.Shelf.Sort.Plain
import Derived.Sort.OwnSortedInts
import Derived.Test.YtchdbhggbdcapaaGreatSu24
set_option linter.unusedVariables false
set_option linter.unusedSimpArgs false
set_option maxRecDepth 100000
set_option maxHeartbeats 16000000
namespace Go.Proofs.YtchdbhggbdcapaaGreat
open _root_.Go.Proofs.Tryz
section
open Go.RowKit
theorem aZ9{X:World}{g:Nat}{us:List Value}{T:TypeId}(hr:X.heap[g]? =some (.cells us.toArray T (0,0))):∀j u,us[j]? =some u->∃ad:Addr,(some (⟨g,0,none⟩:Addr))=some ad/\X.cell? (ad.add j)=some u:=fun j u hu=>by
 refine⟨_,rfl,?_⟩;rw[aBl,cell_of_row _ _ _ _ _ (0,0) hr,zBH];simpa using hu
end
end Go.Proofs.YtchdbhggbdcapaaGreat
