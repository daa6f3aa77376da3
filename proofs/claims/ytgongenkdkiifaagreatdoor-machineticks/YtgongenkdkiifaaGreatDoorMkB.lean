/- The row's closed facts, in parts: each for the kernel alone. -/
import Derived.Test.YtgongenkdkiifaaGreatDoorRows
import Derived.JoinedTies
import Derived.JoinedOf
set_option maxRecDepth 100000
namespace Go.Proofs.YtgongenkdkiifaaGreatDoor
open Go
theorem jf_2 : (mapsRowed Tryz.prog) = true := by kernel_rfl
theorem jf_9 : ((Rows.machineTicksRow.inPlace == Tryz.prog.inPlace 3)) = true := by kernel_rfl
end Go.Proofs.YtgongenkdkiifaaGreatDoor
