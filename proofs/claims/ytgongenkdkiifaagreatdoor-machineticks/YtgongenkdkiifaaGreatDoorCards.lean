/-
  DERIVED. GIVEN WITH THE SEED: THE CARDS: each row of YtgongenkdkiifaaGreatDoorRows.lean that lists a variable, with what it lists TIED to the program's text (the seventh form; the later family's looks); each row that meets fmt, with fmt's text TOLD by the authors' own Lean function (tested against real Go, not proved from fmt's source: count such statements apart). THE CARD IS WHAT COUNTS. Prove the row's statement (the work); the ties are given (YtgongenkdkiifaaGreatDoorTie.lean); close each card by the builder's one call (the guide's Derived/Test/ToyasCard.lean, 'card_holds'). Laid BY PROGRAM, IN A SANDBOX (cutbox-door.mjs). By AI agents, Wed Nov 11 2026. No macro, syntax, notation, axiom, sorry.
-/
import Derived.Test.YtgongenkdkiifaaGreatDoorRows
import GoSem.ClaimSeven
namespace Go.Proofs.YtgongenkdkiifaaGreatDoor
namespace Rows

/-- THE TIED CARD OF 'sponsionlaw26.MachineTicks'. -/
def machineTicksCard : Claim7 := { stood := { row := machineTicksRow, standIns := [], harness := (true, "df10a29b96dfc9faba30b6c50d2f1636b679815156db28dd79a31ebb3a25ed84"), looks := true }, kinds := [], alts := [], laidByText := true, laidKinds := [.data, .data, .data], laidTests := true, laidLooks := .later }
def MachineTicksCardSaid : Prop := Claim7.holds Tryz.pinned (.plain (OpenSpec.ofChange machineTicksSpec)) machineTicksCard

/-- THE SECOND FORM's CARD OF 'sponsionlaw26.MachineTicks'. -/
def machineTicksUptoCard : Claim7 := { stood := { row := machineTicksUptoRow, standIns := [], harness := (true, "df10a29b96dfc9faba30b6c50d2f1636b679815156db28dd79a31ebb3a25ed84"), looks := true }, kinds := [], alts := [], laidByText := true, laidKinds := [.data, .data, .data], laidTests := true, laidLooks := .later }
def MachineTicksUptoCardSaid : Prop := Claim7.holds Tryz.pinned (.plain (OpenSpec.upto machineTicksSpec)) machineTicksUptoCard
end Rows
end Go.Proofs.YtgongenkdkiifaaGreatDoor
