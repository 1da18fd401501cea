/-
  DERIVED. GIVEN WITH THE SEED: THE CARDS: each row of YtoiadmdnfcgckaaGreatDoorRows.lean that lists a variable, with what it lists TIED to the program's text (the seventh form; the later family's looks); each row that meets fmt, with fmt's text TOLD by the authors' own Lean function (tested against real Go, not proved from fmt's source: count such statements apart). THE CARD IS WHAT COUNTS. Prove the row's statement (the work); the ties are given (YtoiadmdnfcgckaaGreatDoorTie.lean); close each card by the builder's one call (the guide's Derived/Test/ToyasCard.lean, 'card_holds'). Laid BY PROGRAM, IN A SANDBOX (cutbox-door.mjs). By AI agents, Wed Nov 11 2026. No macro, syntax, notation, axiom, sorry.
-/
import Derived.Test.YtoiadmdnfcgckaaGreatDoorRows
import GoSem.ClaimSeven
namespace Go.Proofs.YtoiadmdnfcgckaaGreatDoor
namespace Rows

/-- THE TIED CARD OF 'dioptralaw19.HartSteps'. -/
def hartStepsCard : Claim7 := { stood := { row := hartStepsRow, standIns := [], harness := (true, "78edcb684109728d7a314d77ed62bcf9b9a4a18a23a89d810ea213b920f1d2a7"), looks := true }, kinds := [], alts := [], laidByText := true, laidKinds := [.data, .data, .data], laidTests := true, laidLooks := .later }
def HartStepsCardSaid : Prop := Claim7.holds Tryz.pinned (.plain (OpenSpec.ofChange hartStepsSpec)) hartStepsCard

/-- THE TIED CARD OF 'dioptralaw19.HartNew'. -/
def hartNewCard : Claim7 := { stood := { row := hartNewRow, standIns := [], harness := (true, "78edcb684109728d7a314d77ed62bcf9b9a4a18a23a89d810ea213b920f1d2a7"), looks := true }, kinds := [], alts := [], laidByText := true, laidKinds := [.data, .data, .data], laidTests := true, laidLooks := .later }
def HartNewCardSaid : Prop := Claim7.holds Tryz.pinned (.plain (OpenSpec.ofChange hartNewSpec)) hartNewCard

/-- THE TIED CARD OF 'dioptralaw19.HartQuiet'. -/
def hartQuietCard : Claim7 := { stood := { row := hartQuietRow, standIns := [], harness := (true, "78edcb684109728d7a314d77ed62bcf9b9a4a18a23a89d810ea213b920f1d2a7"), looks := true }, kinds := [], alts := [], laidByText := true, laidKinds := [.data, .data, .data], laidTests := true, laidLooks := .later }
def HartQuietCardSaid : Prop := Claim7.holds Tryz.pinned (.plain (OpenSpec.ofChange hartQuietSpec)) hartQuietCard

/-- THE TIED CARD OF 'dioptralaw19.HartAdds'. -/
def hartAddsCard : Claim7 := { stood := { row := hartAddsRow, standIns := [], harness := (true, "78edcb684109728d7a314d77ed62bcf9b9a4a18a23a89d810ea213b920f1d2a7"), looks := true }, kinds := [], alts := [], laidByText := true, laidKinds := [.data, .data, .data], laidTests := true, laidLooks := .later }
def HartAddsCardSaid : Prop := Claim7.holds Tryz.pinned (.plain (OpenSpec.ofChange hartAddsSpec)) hartAddsCard

/-- THE TIED CARD OF 'dioptralaw19.HartFar'. -/
def hartFarCard : Claim7 := { stood := { row := hartFarRow, standIns := [], harness := (true, "78edcb684109728d7a314d77ed62bcf9b9a4a18a23a89d810ea213b920f1d2a7"), looks := true }, kinds := [], alts := [], laidByText := true, laidKinds := [.data, .data, .data], laidTests := true, laidLooks := .later }
def HartFarCardSaid : Prop := Claim7.holds Tryz.pinned (.plain (OpenSpec.ofChange hartFarSpec)) hartFarCard

/-- THE TIED CARD OF 'dioptralaw19.HartHolds'. -/
def hartHoldsCard : Claim7 := { stood := { row := hartHoldsRow, standIns := [], harness := (true, "78edcb684109728d7a314d77ed62bcf9b9a4a18a23a89d810ea213b920f1d2a7"), looks := true }, kinds := [], alts := [], laidByText := true, laidKinds := [.data, .data, .data], laidTests := true, laidLooks := .later }
def HartHoldsCardSaid : Prop := Claim7.holds Tryz.pinned (.plain (OpenSpec.ofChange hartHoldsSpec)) hartHoldsCard

/-- THE TIED CARD OF 'dioptralaw19.HartCalls'. -/
def hartCallsCard : Claim7 := { stood := { row := hartCallsRow, standIns := [], harness := (true, "78edcb684109728d7a314d77ed62bcf9b9a4a18a23a89d810ea213b920f1d2a7"), looks := true }, kinds := [], alts := [], laidByText := true, laidKinds := [.data, .data, .data], laidTests := true, laidLooks := .later }
def HartCallsCardSaid : Prop := Claim7.holds Tryz.pinned (.plain (OpenSpec.ofChange hartCallsSpec)) hartCallsCard

/-- THE SECOND FORM's CARD OF 'dioptralaw19.HartSteps'. -/
def hartStepsUptoCard : Claim7 := { stood := { row := hartStepsUptoRow, standIns := [], harness := (true, "78edcb684109728d7a314d77ed62bcf9b9a4a18a23a89d810ea213b920f1d2a7"), looks := true }, kinds := [], alts := [], laidByText := true, laidKinds := [.data, .data, .data], laidTests := true, laidLooks := .later }
def HartStepsUptoCardSaid : Prop := Claim7.holds Tryz.pinned (.plain (OpenSpec.upto hartStepsSpec)) hartStepsUptoCard

/-- THE SECOND FORM's CARD OF 'dioptralaw19.HartNew'. -/
def hartNewUptoCard : Claim7 := { stood := { row := hartNewUptoRow, standIns := [], harness := (true, "78edcb684109728d7a314d77ed62bcf9b9a4a18a23a89d810ea213b920f1d2a7"), looks := true }, kinds := [], alts := [], laidByText := true, laidKinds := [.data, .data, .data], laidTests := true, laidLooks := .later }
def HartNewUptoCardSaid : Prop := Claim7.holds Tryz.pinned (.plain (OpenSpec.upto hartNewSpec)) hartNewUptoCard

/-- THE SECOND FORM's CARD OF 'dioptralaw19.HartQuiet'. -/
def hartQuietUptoCard : Claim7 := { stood := { row := hartQuietUptoRow, standIns := [], harness := (true, "78edcb684109728d7a314d77ed62bcf9b9a4a18a23a89d810ea213b920f1d2a7"), looks := true }, kinds := [], alts := [], laidByText := true, laidKinds := [.data, .data, .data], laidTests := true, laidLooks := .later }
def HartQuietUptoCardSaid : Prop := Claim7.holds Tryz.pinned (.plain (OpenSpec.upto hartQuietSpec)) hartQuietUptoCard

/-- THE SECOND FORM's CARD OF 'dioptralaw19.HartAdds'. -/
def hartAddsUptoCard : Claim7 := { stood := { row := hartAddsUptoRow, standIns := [], harness := (true, "78edcb684109728d7a314d77ed62bcf9b9a4a18a23a89d810ea213b920f1d2a7"), looks := true }, kinds := [], alts := [], laidByText := true, laidKinds := [.data, .data, .data], laidTests := true, laidLooks := .later }
def HartAddsUptoCardSaid : Prop := Claim7.holds Tryz.pinned (.plain (OpenSpec.upto hartAddsSpec)) hartAddsUptoCard

/-- THE SECOND FORM's CARD OF 'dioptralaw19.HartFar'. -/
def hartFarUptoCard : Claim7 := { stood := { row := hartFarUptoRow, standIns := [], harness := (true, "78edcb684109728d7a314d77ed62bcf9b9a4a18a23a89d810ea213b920f1d2a7"), looks := true }, kinds := [], alts := [], laidByText := true, laidKinds := [.data, .data, .data], laidTests := true, laidLooks := .later }
def HartFarUptoCardSaid : Prop := Claim7.holds Tryz.pinned (.plain (OpenSpec.upto hartFarSpec)) hartFarUptoCard

/-- THE SECOND FORM's CARD OF 'dioptralaw19.HartHolds'. -/
def hartHoldsUptoCard : Claim7 := { stood := { row := hartHoldsUptoRow, standIns := [], harness := (true, "78edcb684109728d7a314d77ed62bcf9b9a4a18a23a89d810ea213b920f1d2a7"), looks := true }, kinds := [], alts := [], laidByText := true, laidKinds := [.data, .data, .data], laidTests := true, laidLooks := .later }
def HartHoldsUptoCardSaid : Prop := Claim7.holds Tryz.pinned (.plain (OpenSpec.upto hartHoldsSpec)) hartHoldsUptoCard

/-- THE SECOND FORM's CARD OF 'dioptralaw19.HartCalls'. -/
def hartCallsUptoCard : Claim7 := { stood := { row := hartCallsUptoRow, standIns := [], harness := (true, "78edcb684109728d7a314d77ed62bcf9b9a4a18a23a89d810ea213b920f1d2a7"), looks := true }, kinds := [], alts := [], laidByText := true, laidKinds := [.data, .data, .data], laidTests := true, laidLooks := .later }
def HartCallsUptoCardSaid : Prop := Claim7.holds Tryz.pinned (.plain (OpenSpec.upto hartCallsSpec)) hartCallsUptoCard
end Rows
end Go.Proofs.YtoiadmdnfcgckaaGreatDoor
