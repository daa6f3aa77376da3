/- The card's closed facts, each for the kernel alone. -/
import Derived.Test.YtgongenkdkiifaaGreatDoorCards
import Derived.SevenTiedAt
set_option maxRecDepth 100000
namespace Go.Proofs.YtgongenkdkiifaaGreatDoor
open Go
theorem goes_is : false = Rows.machineTicksRow.goesBy Tryz.prog := by kernel_rfl
end Go.Proofs.YtgongenkdkiifaaGreatDoor
