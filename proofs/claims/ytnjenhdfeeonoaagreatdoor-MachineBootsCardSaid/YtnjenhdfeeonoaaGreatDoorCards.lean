/-
  DERIVED. GIVEN WITH THE SEED: THE CARDS: each row of YtnjenhdfeeonoaaGreatDoorRows.lean that lists a variable, with what it lists TIED to the program's text (the seventh form; the later family's looks); each row that meets fmt, with fmt's text TOLD by the authors' own Lean function (tested against real Go, not proved from fmt's source: count such statements apart). THE CARD IS WHAT COUNTS. Prove the row's statement (the work); the ties are given (YtnjenhdfeeonoaaGreatDoorTie.lean); close each card by the builder's one call (the guide's Derived/Test/ToyasCard.lean, 'card_holds'). Laid BY PROGRAM, IN A SANDBOX (cutbox-door.mjs). By AI agents, Wed Nov 11 2026. No macro, syntax, notation, axiom, sorry.
-/
import Derived.Test.YtnjenhdfeeonoaaGreatDoorRows
import GoSem.ClaimSeven
namespace Go.Proofs.YtnjenhdfeeonoaaGreatDoor
namespace Rows

/-- THE TIED CARD OF 'dioptralaw20.MachineClock'. -/
def machineClockCard : Claim7 := { stood := { row := machineClockRow, standIns := [], harness := (true, "da73f74ef6906e9c6bb75e78509967c099d565e8fd6760d355e8eb56eccb0e61"), looks := true }, kinds := [], alts := [], laidByText := true, laidKinds := [.data, .data, .data], laidTests := true, laidLooks := .later }
def MachineClockCardSaid : Prop := Claim7.holds Tryz.pinned (.plain (OpenSpec.ofChange machineClockSpec)) machineClockCard

/-- THE TIED CARD OF 'dioptralaw20.MachineDisk'. -/
def machineDiskCard : Claim7 := { stood := { row := machineDiskRow, standIns := [], harness := (true, "da73f74ef6906e9c6bb75e78509967c099d565e8fd6760d355e8eb56eccb0e61"), looks := true }, kinds := [], alts := [], laidByText := true, laidKinds := [.data, .data, .data], laidTests := true, laidLooks := .later }
def MachineDiskCardSaid : Prop := Claim7.holds Tryz.pinned (.plain (OpenSpec.ofChange machineDiskSpec)) machineDiskCard

/-- THE TIED CARD OF 'dioptralaw20.MachineParts'. -/
def machinePartsCard : Claim7 := { stood := { row := machinePartsRow, standIns := [], harness := (true, "da73f74ef6906e9c6bb75e78509967c099d565e8fd6760d355e8eb56eccb0e61"), looks := true }, kinds := [], alts := [], laidByText := true, laidKinds := [.data, .data, .data], laidTests := true, laidLooks := .later }
def MachinePartsCardSaid : Prop := Claim7.holds Tryz.pinned (.plain (OpenSpec.ofChange machinePartsSpec)) machinePartsCard

/-- THE TIED CARD OF 'dioptralaw20.MachineRuns'. -/
def machineRunsCard : Claim7 := { stood := { row := machineRunsRow, standIns := [], harness := (true, "da73f74ef6906e9c6bb75e78509967c099d565e8fd6760d355e8eb56eccb0e61"), looks := true }, kinds := [], alts := [], laidByText := true, laidKinds := [.data, .data, .data], laidTests := true, laidLooks := .later }
def MachineRunsCardSaid : Prop := Claim7.holds Tryz.pinned (.plain (OpenSpec.ofChange machineRunsSpec)) machineRunsCard

/-- THE TIED CARD OF 'dioptralaw20.MachineBoots'. -/
def machineBootsCard : Claim7 := { stood := { row := machineBootsRow, standIns := [], harness := (true, "da73f74ef6906e9c6bb75e78509967c099d565e8fd6760d355e8eb56eccb0e61"), looks := true }, kinds := [], alts := [], laidByText := true, laidKinds := [.data, .data, .data], laidTests := true, laidLooks := .later }
def MachineBootsCardSaid : Prop := Claim7.holds Tryz.pinned (.plain (OpenSpec.ofChange machineBootsSpec)) machineBootsCard

/-- THE TIED CARD OF 'dioptralaw20.MachineTalks'. -/
def machineTalksCard : Claim7 := { stood := { row := machineTalksRow, standIns := [], harness := (true, "da73f74ef6906e9c6bb75e78509967c099d565e8fd6760d355e8eb56eccb0e61"), looks := true }, kinds := [], alts := [], laidByText := true, laidKinds := [.data, .data, .data], laidTests := true, laidLooks := .later }
def MachineTalksCardSaid : Prop := Claim7.holds Tryz.pinned (.plain (OpenSpec.ofChange machineTalksSpec)) machineTalksCard

/-- THE SECOND FORM's CARD OF 'dioptralaw20.MachineClock'. -/
def machineClockUptoCard : Claim7 := { stood := { row := machineClockUptoRow, standIns := [], harness := (true, "da73f74ef6906e9c6bb75e78509967c099d565e8fd6760d355e8eb56eccb0e61"), looks := true }, kinds := [], alts := [], laidByText := true, laidKinds := [.data, .data, .data], laidTests := true, laidLooks := .later }
def MachineClockUptoCardSaid : Prop := Claim7.holds Tryz.pinned (.plain (OpenSpec.upto machineClockSpec)) machineClockUptoCard

/-- THE SECOND FORM's CARD OF 'dioptralaw20.MachineDisk'. -/
def machineDiskUptoCard : Claim7 := { stood := { row := machineDiskUptoRow, standIns := [], harness := (true, "da73f74ef6906e9c6bb75e78509967c099d565e8fd6760d355e8eb56eccb0e61"), looks := true }, kinds := [], alts := [], laidByText := true, laidKinds := [.data, .data, .data], laidTests := true, laidLooks := .later }
def MachineDiskUptoCardSaid : Prop := Claim7.holds Tryz.pinned (.plain (OpenSpec.upto machineDiskSpec)) machineDiskUptoCard

/-- THE SECOND FORM's CARD OF 'dioptralaw20.MachineParts'. -/
def machinePartsUptoCard : Claim7 := { stood := { row := machinePartsUptoRow, standIns := [], harness := (true, "da73f74ef6906e9c6bb75e78509967c099d565e8fd6760d355e8eb56eccb0e61"), looks := true }, kinds := [], alts := [], laidByText := true, laidKinds := [.data, .data, .data], laidTests := true, laidLooks := .later }
def MachinePartsUptoCardSaid : Prop := Claim7.holds Tryz.pinned (.plain (OpenSpec.upto machinePartsSpec)) machinePartsUptoCard

/-- THE SECOND FORM's CARD OF 'dioptralaw20.MachineRuns'. -/
def machineRunsUptoCard : Claim7 := { stood := { row := machineRunsUptoRow, standIns := [], harness := (true, "da73f74ef6906e9c6bb75e78509967c099d565e8fd6760d355e8eb56eccb0e61"), looks := true }, kinds := [], alts := [], laidByText := true, laidKinds := [.data, .data, .data], laidTests := true, laidLooks := .later }
def MachineRunsUptoCardSaid : Prop := Claim7.holds Tryz.pinned (.plain (OpenSpec.upto machineRunsSpec)) machineRunsUptoCard

/-- THE SECOND FORM's CARD OF 'dioptralaw20.MachineBoots'. -/
def machineBootsUptoCard : Claim7 := { stood := { row := machineBootsUptoRow, standIns := [], harness := (true, "da73f74ef6906e9c6bb75e78509967c099d565e8fd6760d355e8eb56eccb0e61"), looks := true }, kinds := [], alts := [], laidByText := true, laidKinds := [.data, .data, .data], laidTests := true, laidLooks := .later }
def MachineBootsUptoCardSaid : Prop := Claim7.holds Tryz.pinned (.plain (OpenSpec.upto machineBootsSpec)) machineBootsUptoCard

/-- THE SECOND FORM's CARD OF 'dioptralaw20.MachineTalks'. -/
def machineTalksUptoCard : Claim7 := { stood := { row := machineTalksUptoRow, standIns := [], harness := (true, "da73f74ef6906e9c6bb75e78509967c099d565e8fd6760d355e8eb56eccb0e61"), looks := true }, kinds := [], alts := [], laidByText := true, laidKinds := [.data, .data, .data], laidTests := true, laidLooks := .later }
def MachineTalksUptoCardSaid : Prop := Claim7.holds Tryz.pinned (.plain (OpenSpec.upto machineTalksSpec)) machineTalksUptoCard
end Rows
end Go.Proofs.YtnjenhdfeeonoaaGreatDoor
