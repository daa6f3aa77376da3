/- The row and its card. -/
import Derived.Test.YtgongenkdkiifaaGreatDoorMn
import Derived.Test.YtgongenkdkiifaaGreatDoorMlA
import Derived.Test.YtgongenkdkiifaaGreatDoorMlC
set_option linter.unusedVariables false
set_option maxRecDepth 100000
namespace Go.Proofs.YtgongenkdkiifaaGreatDoor
open Go.ChangeShapes Go.WideShapes Go.RowKit Go.Eng
theorem machineTicks_card : Rows.MachineTicksCardSaid :=
  Claim7.holds_tied_plain_at .later [] [.data, .data, .data] true (true, "df10a29b96dfc9faba30b6c50d2f1636b679815156db28dd79a31ebb3a25ed84") true machineTicks_holds (fun _ h => by cases h) (by kernel_rfl) (fun _ h => by cases h) machineTicks_row_tie rfl ⟨rfl, rfl⟩ main_is rfl
    (fun f fn hf hfn => by
      obtain rfl : f = 3 := Option.some.inj ((show Tryz.prog.funcNamed "sponsion/sponsionlaw26.MachineTicks" = some 3 by kernel_rfl).symm.trans hf) |>.symm
      obtain rfl : fn = Tryz.f3 := (Option.some.inj (Tryz.func3.symm.trans hfn)).symm
      exact ⟨looks_is, fun j t ht => by
        rw [Tryz.params3] at ht
        have hm : t ∈ [22] := by simpa using Array.mem_of_getElem? ht
        have hall : ([22].all fun u => !Tryz.prog.wantsStandIn u) = true := by kernel_rfl
        exact (show Tryz.prog.wantsStandIn t = false by simpa using List.all_eq_true.1 hall t hm)⟩)
    goes_is
#print axioms machineTicks_card
end Go.Proofs.YtgongenkdkiifaaGreatDoor
