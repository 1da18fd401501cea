/-
  No cell of these rows narrows 'for every input' (looked for: loops, veiled, ifaces, maps, wideKeys, modest, calm, conditions, laid).
  DERIVED. THE GIVEN ROWS OF THIS SEAT. 6 by the template 'for every input the law returns true; each argument reads behind the call as it read before'; 0 by the template 'total and deterministic' (their statements: YtkjfhkhcoenanaaTotals.lean).
  GIVEN WITH THE SEED: the statements are not yours to turn. If you find one false, say at which input.
  Laid BY PROGRAM, IN A SANDBOX (cutbox-rows.mjs): the forced cells as the released guide's own fill.sh prints them over the translation 17ab2af817ddaeb5… (all of the seat's roots in one cut). By AI agents, Wed Nov 11 2026. No macro, syntax, notation, axiom, sorry.
-/
import Derived.Test.YtkjfhkhcoenanaaChecked
import GoSem.Claim
import GoSem.ClaimJoined
import GoSem.ClaimMapViews
import Derived.JoinedTies
import Derived.KernelRfl
namespace Go.Proofs.Ytkjfhkhcoenanaa
/- THE CELL 'sum', in the pinned program and in every row, IS THE sha256 OF THE DUMP (.gsa) THAT YtkjfhkhcoenanaaProg.lean LOADS. Nothing in Lean hashes anything: it is a label: what it is worth is what the hold of that sum in a sandbox is worth. -/
noncomputable def Try.pinned : Pinned := { name := "ytkjfhkhcoenanaa", sum := "17ab2af817ddaeb5fcfd493d4cb36510d2b5db44ea7d7fc4fbd0b0a226f60b7d", checked := Try.checked }
namespace Rows
def none {H : Type} : Left H := { results := [], args := [] }

/-- 'dioptralaw10.SectorActs': WHATEVER THE INPUT: true; the input reads as it did. -/
def sectorActsSpec : ChangeSpec := { name := "sectorActs", fn := fun _ => fun
  | [d1, d2] => { results := [.lit (.bool true)], args := [d1, d2] }
  | _ => none }
def sectorActsRow : OpenClaim := { program := "ytkjfhkhcoenanaa", sum := "17ab2af817ddaeb5fcfd493d4cb36510d2b5db44ea7d7fc4fbd0b0a226f60b7d", func := "dioptra/dioptralaw10.SectorActs", spec := "sectorActs", unfollowed := true, recurses := true, apart := false }
def SectorActsSaid : Prop := sectorActsRow.holds Try.pinned (OpenSpec.ofChange sectorActsSpec)

/-- ITS FALSE NEIGHBOUR: 'it returns false'. Refute it at one input. -/
def sectorActsWrong : ChangeSpec := { name := "sectorActs", fn := fun _ => fun
  | [d1, d2] => { results := [.lit (.bool false)], args := [d1, d2] }
  | _ => none }
def SectorActsWrongFalsely : Prop := sectorActsRow.holds Try.pinned (OpenSpec.ofChange sectorActsWrong)

/-- 'dioptralaw10.SectorRefuses': WHATEVER THE INPUT: true; the input reads as it did. -/
def sectorRefusesSpec : ChangeSpec := { name := "sectorRefuses", fn := fun _ => fun
  | [d1, d2, d3] => { results := [.lit (.bool true)], args := [d1, d2, d3] }
  | _ => none }
def sectorRefusesRow : OpenClaim := { program := "ytkjfhkhcoenanaa", sum := "17ab2af817ddaeb5fcfd493d4cb36510d2b5db44ea7d7fc4fbd0b0a226f60b7d", func := "dioptra/dioptralaw10.SectorRefuses", spec := "sectorRefuses", unfollowed := true, recurses := true, apart := false }
def SectorRefusesSaid : Prop := sectorRefusesRow.holds Try.pinned (OpenSpec.ofChange sectorRefusesSpec)

/-- ITS FALSE NEIGHBOUR: 'it returns false'. Refute it at one input. -/
def sectorRefusesWrong : ChangeSpec := { name := "sectorRefuses", fn := fun _ => fun
  | [d1, d2, d3] => { results := [.lit (.bool false)], args := [d1, d2, d3] }
  | _ => none }
def SectorRefusesWrongFalsely : Prop := sectorRefusesRow.holds Try.pinned (OpenSpec.ofChange sectorRefusesWrong)

/-- 'dioptralaw10.SectorFails': WHATEVER THE INPUT: true; the input reads as it did. -/
def sectorFailsSpec : ChangeSpec := { name := "sectorFails", fn := fun _ => fun
  | [d1, d2, d3] => { results := [.lit (.bool true)], args := [d1, d2, d3] }
  | _ => none }
def sectorFailsRow : OpenClaim := { program := "ytkjfhkhcoenanaa", sum := "17ab2af817ddaeb5fcfd493d4cb36510d2b5db44ea7d7fc4fbd0b0a226f60b7d", func := "dioptra/dioptralaw10.SectorFails", spec := "sectorFails", unfollowed := true, recurses := true, apart := false }
def SectorFailsSaid : Prop := sectorFailsRow.holds Try.pinned (OpenSpec.ofChange sectorFailsSpec)

/-- ITS FALSE NEIGHBOUR: 'it returns false'. Refute it at one input. -/
def sectorFailsWrong : ChangeSpec := { name := "sectorFails", fn := fun _ => fun
  | [d1, d2, d3] => { results := [.lit (.bool false)], args := [d1, d2, d3] }
  | _ => none }
def SectorFailsWrongFalsely : Prop := sectorFailsRow.holds Try.pinned (OpenSpec.ofChange sectorFailsWrong)

/-- 'dioptralaw10.SectorNobody': WHATEVER THE INPUT: true; the input reads as it did. -/
def sectorNobodySpec : ChangeSpec := { name := "sectorNobody", fn := fun _ => fun
  | [d1, d2] => { results := [.lit (.bool true)], args := [d1, d2] }
  | _ => none }
def sectorNobodyRow : OpenClaim := { program := "ytkjfhkhcoenanaa", sum := "17ab2af817ddaeb5fcfd493d4cb36510d2b5db44ea7d7fc4fbd0b0a226f60b7d", func := "dioptra/dioptralaw10.SectorNobody", spec := "sectorNobody", unfollowed := true, recurses := true, apart := false }
def SectorNobodySaid : Prop := sectorNobodyRow.holds Try.pinned (OpenSpec.ofChange sectorNobodySpec)

/-- ITS FALSE NEIGHBOUR: 'it returns false'. Refute it at one input. -/
def sectorNobodyWrong : ChangeSpec := { name := "sectorNobody", fn := fun _ => fun
  | [d1, d2] => { results := [.lit (.bool false)], args := [d1, d2] }
  | _ => none }
def SectorNobodyWrongFalsely : Prop := sectorNobodyRow.holds Try.pinned (OpenSpec.ofChange sectorNobodyWrong)

/-- 'dioptralaw10.SectorTurns': WHATEVER THE INPUT: true; the input reads as it did. -/
def sectorTurnsSpec : ChangeSpec := { name := "sectorTurns", fn := fun _ => fun
  | [d1, d2, d3] => { results := [.lit (.bool true)], args := [d1, d2, d3] }
  | _ => none }
def sectorTurnsRow : OpenClaim := { program := "ytkjfhkhcoenanaa", sum := "17ab2af817ddaeb5fcfd493d4cb36510d2b5db44ea7d7fc4fbd0b0a226f60b7d", func := "dioptra/dioptralaw10.SectorTurns", spec := "sectorTurns", unfollowed := true, recurses := true, apart := false }
def SectorTurnsSaid : Prop := sectorTurnsRow.holds Try.pinned (OpenSpec.ofChange sectorTurnsSpec)

/-- ITS FALSE NEIGHBOUR: 'it returns false'. Refute it at one input. -/
def sectorTurnsWrong : ChangeSpec := { name := "sectorTurns", fn := fun _ => fun
  | [d1, d2, d3] => { results := [.lit (.bool false)], args := [d1, d2, d3] }
  | _ => none }
def SectorTurnsWrongFalsely : Prop := sectorTurnsRow.holds Try.pinned (OpenSpec.ofChange sectorTurnsWrong)

/-- 'dioptralaw10.SectorCopies': WHATEVER THE INPUT: true; the input reads as it did. -/
def sectorCopiesSpec : ChangeSpec := { name := "sectorCopies", fn := fun _ => fun
  | [d] => { results := [.lit (.bool true)], args := [d] }
  | _ => none }
def sectorCopiesRow : OpenClaim := { program := "ytkjfhkhcoenanaa", sum := "17ab2af817ddaeb5fcfd493d4cb36510d2b5db44ea7d7fc4fbd0b0a226f60b7d", func := "dioptra/dioptralaw10.SectorCopies", spec := "sectorCopies", unfollowed := true, recurses := true, apart := false }
def SectorCopiesSaid : Prop := sectorCopiesRow.holds Try.pinned (OpenSpec.ofChange sectorCopiesSpec)

/-- ITS FALSE NEIGHBOUR: 'it returns false'. Refute it at one input. -/
def sectorCopiesWrong : ChangeSpec := { name := "sectorCopies", fn := fun _ => fun
  | [d] => { results := [.lit (.bool false)], args := [d] }
  | _ => none }
def SectorCopiesWrongFalsely : Prop := sectorCopiesRow.holds Try.pinned (OpenSpec.ofChange sectorCopiesWrong)

/- THE SECOND FORM. 'bulk': how many values and letters a reading holds, each counted each time it is reached (what is shared counts as often as it is met; a slice's spare places count too). A statement '..UptoSaid' is the law's where the arguments, and the package variables that the reading takes, are together of bulk at most 1048576: NARROWER than '..Said'. Prove '..Said' where nothing that the law and all that it calls make is longer than what came in: it says more and counts as full. Else prove '..UptoSaid'. A law counts once. -/
mutual
def uptoBulk {H : Type} : DataW H → Nat
  | .lit (.string bytes) => bytes.length + 1
  | .lit _ => 1
  | .nil => 1
  | .ptr d => uptoBulk d + 1
  | .slice elems spare => uptoBulkAll elems + uptoBulkAll spare + 1
  | .agg parts => uptoBulkAll parts + 1
  | .iface _ d => uptoBulk d + 1
  | .map entries => uptoBulkEntries entries + 1
  | .held _ => 1
def uptoBulkAll {H : Type} : List (DataW H) → Nat
  | [] => 0
  | d :: r => uptoBulk d + uptoBulkAll r
def uptoBulkEntries {H : Type} : List (Lit × DataW H) → Nat
  | [] => 0
  | x :: r => uptoBulkEntry x + uptoBulkEntries r
def uptoBulkEntry {H : Type} : Lit × DataW H → Nat
  | (.string bytes, d) => bytes.length + uptoBulk d + 1
  | (_, d) => uptoBulk d + 1
 end
def uptoSmall : (H : Type) → List (DataW H) → Bool := fun _ ds => decide (uptoBulkAll ds ≤ 1048576)
def OpenSpec.upto (s : _root_.Go.ChangeSpec) : _root_.Go.OpenSpec := { _root_.Go.OpenSpec.ofChange s with cond := some uptoSmall }

/-- 'dioptralaw10.SectorActs', WHERE WHAT IT READS IS OF BULK AT MOST 1048576: true; the input reads as it did. -/
def sectorActsUptoRow : OpenClaim := { program := "ytkjfhkhcoenanaa", sum := "17ab2af817ddaeb5fcfd493d4cb36510d2b5db44ea7d7fc4fbd0b0a226f60b7d", func := "dioptra/dioptralaw10.SectorActs", spec := "sectorActs", unfollowed := true, recurses := true, apart := false, narrowed := true }
def SectorActsUptoSaid : Prop := sectorActsUptoRow.holds Try.pinned (OpenSpec.upto sectorActsSpec)

/-- 'dioptralaw10.SectorRefuses', WHERE WHAT IT READS IS OF BULK AT MOST 1048576: true; the input reads as it did. -/
def sectorRefusesUptoRow : OpenClaim := { program := "ytkjfhkhcoenanaa", sum := "17ab2af817ddaeb5fcfd493d4cb36510d2b5db44ea7d7fc4fbd0b0a226f60b7d", func := "dioptra/dioptralaw10.SectorRefuses", spec := "sectorRefuses", unfollowed := true, recurses := true, apart := false, narrowed := true }
def SectorRefusesUptoSaid : Prop := sectorRefusesUptoRow.holds Try.pinned (OpenSpec.upto sectorRefusesSpec)

/-- 'dioptralaw10.SectorFails', WHERE WHAT IT READS IS OF BULK AT MOST 1048576: true; the input reads as it did. -/
def sectorFailsUptoRow : OpenClaim := { program := "ytkjfhkhcoenanaa", sum := "17ab2af817ddaeb5fcfd493d4cb36510d2b5db44ea7d7fc4fbd0b0a226f60b7d", func := "dioptra/dioptralaw10.SectorFails", spec := "sectorFails", unfollowed := true, recurses := true, apart := false, narrowed := true }
def SectorFailsUptoSaid : Prop := sectorFailsUptoRow.holds Try.pinned (OpenSpec.upto sectorFailsSpec)

/-- 'dioptralaw10.SectorNobody', WHERE WHAT IT READS IS OF BULK AT MOST 1048576: true; the input reads as it did. -/
def sectorNobodyUptoRow : OpenClaim := { program := "ytkjfhkhcoenanaa", sum := "17ab2af817ddaeb5fcfd493d4cb36510d2b5db44ea7d7fc4fbd0b0a226f60b7d", func := "dioptra/dioptralaw10.SectorNobody", spec := "sectorNobody", unfollowed := true, recurses := true, apart := false, narrowed := true }
def SectorNobodyUptoSaid : Prop := sectorNobodyUptoRow.holds Try.pinned (OpenSpec.upto sectorNobodySpec)

/-- 'dioptralaw10.SectorTurns', WHERE WHAT IT READS IS OF BULK AT MOST 1048576: true; the input reads as it did. -/
def sectorTurnsUptoRow : OpenClaim := { program := "ytkjfhkhcoenanaa", sum := "17ab2af817ddaeb5fcfd493d4cb36510d2b5db44ea7d7fc4fbd0b0a226f60b7d", func := "dioptra/dioptralaw10.SectorTurns", spec := "sectorTurns", unfollowed := true, recurses := true, apart := false, narrowed := true }
def SectorTurnsUptoSaid : Prop := sectorTurnsUptoRow.holds Try.pinned (OpenSpec.upto sectorTurnsSpec)

/-- 'dioptralaw10.SectorCopies', WHERE WHAT IT READS IS OF BULK AT MOST 1048576: true; the input reads as it did. -/
def sectorCopiesUptoRow : OpenClaim := { program := "ytkjfhkhcoenanaa", sum := "17ab2af817ddaeb5fcfd493d4cb36510d2b5db44ea7d7fc4fbd0b0a226f60b7d", func := "dioptra/dioptralaw10.SectorCopies", spec := "sectorCopies", unfollowed := true, recurses := true, apart := false, narrowed := true }
def SectorCopiesUptoSaid : Prop := sectorCopiesUptoRow.holds Try.pinned (OpenSpec.upto sectorCopiesSpec)

end Rows
end Go.Proofs.Ytkjfhkhcoenanaa
