/- The card's closed facts, each for the kernel alone. -/
import Derived.Test.YtgongenkdkiifaaGreatDoorCards
import Derived.SevenTiedAt
set_option maxRecDepth 100000
namespace Go.Proofs.YtgongenkdkiifaaGreatDoor
open Go
theorem main_is : Tryz.prog.mainIs = some ((true, "df10a29b96dfc9faba30b6c50d2f1636b679815156db28dd79a31ebb3a25ed84").1, (true, "df10a29b96dfc9faba30b6c50d2f1636b679815156db28dd79a31ebb3a25ed84").2.toList) := by kernel_rfl
theorem looks_is : true = Tryz.prog.looks [] := by kernel_rfl
end Go.Proofs.YtgongenkdkiifaaGreatDoor
