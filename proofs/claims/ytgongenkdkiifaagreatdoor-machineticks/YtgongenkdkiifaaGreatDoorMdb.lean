/- Another hash's run: what comes of it. -/
import Derived.Test.YtgongenkdkiifaaGreatDoorMd0
set_option linter.unusedVariables false
set_option maxRecDepth 100000
namespace Go.Proofs
open Go.Eng
theorem ev_Node_1 (ν : Nu) (x y : Nat → BitVec 8) (f1 f2 : Nat → BitVec 32) (T1 T2 : RT) : evB okH ((specR ((SgR Sg_h tabH 60).f 245) 0 [.r8 32 x, .r8 32 y]).ev ν 0 (tabs2 f1 f2 T1 T2) []) = true := by kernel_rfl
end Go.Proofs
