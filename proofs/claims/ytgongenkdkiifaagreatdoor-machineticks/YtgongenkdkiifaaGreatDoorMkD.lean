/- The row's closed facts, in parts: each for the kernel alone. -/
import Derived.Test.YtgongenkdkiifaaGreatDoorRows
import Derived.JoinedTies
import Derived.JoinedOf
set_option maxRecDepth 100000
namespace Go.Proofs.YtgongenkdkiifaaGreatDoor
open Go
theorem jf_12 : ((Rows.machineTicksRow.named == Tryz.prog.varsNamed 3)) = true := by kernel_rfl
theorem jf_0 : (Rows.machineTicksRow.wf (OpenSpec.ofChange Rows.machineTicksSpec)) = true := by kernel_rfl
theorem jf_3 : (Tryz.f3.params.all (Tryz.prog.readableRec ·)) = true := by kernel_rfl
theorem jf_4 : (namedTie Tryz.prog Rows.machineTicksRow.named Rows.machineTicksSpec.vars) = true := by kernel_rfl
theorem jf_5 : ((Rows.machineTicksRow.stops == [])) = true := by kernel_rfl
theorem jf_6 : ((Tryz.prog.stops == [])) = true := by kernel_rfl
theorem jf_7 : ((Rows.machineTicksRow.knobs == [])) = true := by kernel_rfl
theorem jf_8 : ((Tryz.prog.stopKnobs == [])) = true := by kernel_rfl
theorem jf_13 : ((Rows.machineTicksRow.maps == (Tryz.f3.params.toList ++ Rows.machineTicksSpec.plain.varTypes Tryz.prog).any (Tryz.prog.mapsRec ·))) = true := by kernel_rfl
theorem jf_14 : ((Rows.machineTicksRow.ifaces == (Tryz.f3.params.toList ++ Rows.machineTicksSpec.plain.varTypes Tryz.prog).any (Tryz.prog.ifacesRec ·))) = true := by kernel_rfl
theorem jf_15 : ((Rows.machineTicksRow.mapsOut == Tryz.prog.mapsAmong Tryz.f3.resultTypes.toList)) = true := by kernel_rfl
theorem jf_16 : ((Rows.machineTicksRow.loops == (Tryz.f3.params.toList ++ Rows.machineTicksSpec.plain.varTypes Tryz.prog).any (Tryz.prog.loopsFrom ·))) = true := by kernel_rfl
theorem jf_17 : ((Rows.machineTicksRow.wideKeys == (Tryz.f3.params.toList ++ Rows.machineTicksSpec.plain.varTypes Tryz.prog ++ Tryz.f3.resultTypes.toList).any (Tryz.prog.wideKeysFrom ·))) = true := by kernel_rfl
theorem jf_18 : (Rows.machineTicksSpec.vars.all (Tryz.prog.varReadable ·)) = true := by kernel_rfl
theorem jf_19 : (Tryz.f3.resultTypes.all (fun t => Tryz.prog.readableRec t && decide (t < Tryz.prog.types.size))) = true := by kernel_rfl
theorem jf_20 : ((Rows.machineTicksRow.ifacesOut == Tryz.f3.resultTypes.toList.any (Tryz.prog.ifacesRec ·))) = true := by kernel_rfl
theorem jf_21 : ((Rows.machineTicksRow.loopsOut == Tryz.f3.resultTypes.toList.any (Tryz.prog.loopsFrom ·))) = true := by kernel_rfl
theorem jf_22 : ((Rows.machineTicksRow.plainKeys == Tryz.prog.plainKeys)) = true := by kernel_rfl
theorem jf_23 : (Rows.machineTicksRow.shortTexts.isNone) = true := by kernel_rfl
theorem jf_24 : (Tryz.prog.stopsHeard) = true := by kernel_rfl
theorem jf_25 : (Tryz.prog.mayEnter) = true := by kernel_rfl
theorem jf_26 : ((Rows.machineTicksRow.lifted == Tryz.prog.liftsFinal)) = true := by kernel_rfl
theorem jf_27 : ((Tryz.prog.make == some Rows.machineTicksRow.make)) = true := by kernel_rfl
theorem jf_28 : ((Rows.machineTicksRow.kinds == (if Rows.machineTicksRow.domain.isEmpty then [] else Tryz.f3.params.toList.map fun t => match Tryz.prog.underlying t with | some (.int k) => some k | _ => none))) = true := by kernel_rfl
theorem jf_29 : ((Rows.machineTicksRow.pinned == Rows.machineTicksRow.pinnedBy)) = true := by kernel_rfl
theorem jf_30 : ((Rows.machineTicksRow.veiled == (Tryz.f3.params.toList ++ Rows.machineTicksSpec.plain.varTypes Tryz.prog ++ Tryz.f3.resultTypes.toList).any (Tryz.prog.veiledRec ·))) = true := by kernel_rfl
theorem jf_31 : (Rows.machineTicksRow.veiledFits Tryz.prog Tryz.f3.params.toList (Tryz.f3.params.toList ++ Rows.machineTicksSpec.plain.varTypes Tryz.prog ++ Tryz.f3.resultTypes.toList)) = true := by kernel_rfl
end Go.Proofs.YtgongenkdkiifaaGreatDoor
