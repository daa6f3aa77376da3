/- A hash's run: its first half, reckoned. -/
import Derived.Test.YtgongenkdkiifaaGreatDoorMd0
set_option linter.unusedVariables false
set_option maxRecDepth 100000
namespace Go.Proofs
open Go.Eng
theorem ev_Empty_1 (ν : Nu) (f1 f2 : Nat → BitVec 32) (T1 T2 : RT) : evB okH ((specR ((SgR Sg_h tabH 60).f 244) 0 [.i 0]).ev ν 0 (tabs2 f1 f2 T1 T2) []) = true := by kernel_rfl
theorem ev_Empty_2 (ν : Nu) (f1 f2 : Nat → BitVec 32) (T1 T2 : RT) : evL ((specR ((SgR Sg_h tabH 60).f 244) 0 [.i 0]).ev ν 0 (tabs2 f1 f2 T1 T2) []) = evR ((specR ((SgR Sg_h tabH 60).f 244) 0 [.i 0]).ev ν 0 (tabs2 f1 f2 T1 T2) []) := by kernel_rfl
end Go.Proofs
