/-
  DERIVED. GIVEN WITH THE SEED: THE CARDS: each row of YtkljleenmmeneaaGreatDoorRows.lean that lists a variable, with what it lists TIED to the program's text (the seventh form; the later family's looks); each row that meets fmt, with fmt's text TOLD by the authors' own Lean function (tested against real Go, not proved from fmt's source: count such statements apart). THE CARD IS WHAT COUNTS. Prove the row's statement (the work); the ties are given (YtkljleenmmeneaaGreatDoorTie.lean); close each card by the builder's one call (the guide's Derived/Test/ToyasCard.lean, 'card_holds'). Laid BY PROGRAM, IN A SANDBOX (cutbox-door.mjs). By AI agents, Wed Nov 11 2026. No macro, syntax, notation, axiom, sorry.
-/
import Derived.Test.YtkljleenmmeneaaGreatDoorRows
import GoSem.ClaimSeven
namespace Go.Proofs.YtkljleenmmeneaaGreatDoor
namespace Rows

/-- THE TIED CARD OF 'dioptralaw19.HartAdds'. -/
def hartAddsCard : Claim7 := { stood := { row := hartAddsRow, standIns := [], harness := (true, "2daca44cac35e0c4c98a2a4d100166b045e20ae84af5328d7f3377828a627317"), looks := true }, kinds := [], alts := [], laidByText := true, laidKinds := [.data, .data, .data], laidTests := true, laidLooks := .later }
def HartAddsCardSaid : Prop := Claim7.holds Tryz.pinned (.plain (OpenSpec.ofChange hartAddsSpec)) hartAddsCard

/-- THE SECOND FORM's CARD OF 'dioptralaw19.HartAdds'. -/
def hartAddsUptoCard : Claim7 := { stood := { row := hartAddsUptoRow, standIns := [], harness := (true, "2daca44cac35e0c4c98a2a4d100166b045e20ae84af5328d7f3377828a627317"), looks := true }, kinds := [], alts := [], laidByText := true, laidKinds := [.data, .data, .data], laidTests := true, laidLooks := .later }
def HartAddsUptoCardSaid : Prop := Claim7.holds Tryz.pinned (.plain (OpenSpec.upto hartAddsSpec)) hartAddsUptoCard
end Rows
end Go.Proofs.YtkljleenmmeneaaGreatDoor
