/- The row's closed facts, in parts: each for the kernel alone. -/
import Derived.Test.YtgongenkdkiifaaGreatDoorRows
import Derived.JoinedTies
import Derived.JoinedOf
set_option maxRecDepth 100000
namespace Go.Proofs.YtgongenkdkiifaaGreatDoor
open Go
theorem jf_10 : ((Rows.machineTicksRow.unfollowed == Tryz.prog.unfollowed 3)) = true := by kernel_rfl
theorem jf_11 : ((Rows.machineTicksRow.recurses == Tryz.prog.recurses 3)) = true := by kernel_rfl
end Go.Proofs.YtgongenkdkiifaaGreatDoor
