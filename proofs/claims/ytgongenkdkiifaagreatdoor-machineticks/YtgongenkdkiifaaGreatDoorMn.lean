/- The row and its card. -/
import Derived.Test.YtgongenkdkiifaaGreatDoorMj
set_option linter.unusedVariables false
set_option maxRecDepth 100000
namespace Go.Proofs.YtgongenkdkiifaaGreatDoor
open Go.ChangeShapes Go.WideShapes Go.RowKit Go.Eng
theorem machineTicks_holds : Rows.MachineTicksSaid :=
  OpenClaim.holds_of_wide 3 Tryz.f3 rfl rfl rfl rfl rfl rfl rfl ⟨rfl, rfl, rfl, rfl, rfl⟩ rfl rfl rfl rfl rfl (by kernel_rfl) Tryz.func3 joined
    (of_decide_eq_true (by kernel_rfl)) (by unfold Func.isWrapper; first | (rw [if_pos (by decide +kernel)]; kernel_rfl) | (rw [if_neg (by decide +kernel)]; exact ⟨rfl, rfl⟩))
    (fun os started H enc _ => law_lifted os started H enc)
end Go.Proofs.YtgongenkdkiifaaGreatDoor
