/- Bytes in memory. -/
import Derived.Test.YtmghlakedaigpaaDoorShelf
import Derived.Test.YtmghlakedaigpaaDoorW12
import Derived.Test.YtmghlakedaigpaaDoorUpd
import Derived.Test.YtmghlakedaigpaaDoorPr
import Derived.Test.YtmghlakedaigpaaDoorSame
import Derived.Deep.RegionHeld3
import Derived.Deep.DeepCutAuto
import Derived.Deep.RegionLaw
namespace Go.Proofs.YtmghlakedaigpaaDoor
open Go Go.RowKit

theorem byte_info : (Tryd.prog.info? 5).map (fun i => (i.zero, i.size, i.bytes)) = some (some (.int .u8 0), 1, 1) := by kernel_rfl
end Go.Proofs.YtmghlakedaigpaaDoor
