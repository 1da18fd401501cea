/-
  NARROWER THAN 'FOR EVERY INPUT', by the rows' own cells (each row's printed sentence says how): HartSteps: laid · HartNew: laid · HartQuiet: laid · HartAdds: laid · HartFar: laid · HartHolds: laid · HartCalls: laid.
  DERIVED. THE GIVEN ROWS OF THIS SEAT. 7 by the template 'for every input the law returns true; each argument reads behind the call as it read before'; 0 by the template 'total and deterministic' (their statements: YtoiadmdnfcgckaaGreatDoorTotals.lean).
  GIVEN WITH THE SEED: the statements are not yours to turn. If you find one false, say at which input.
  Laid BY PROGRAM, IN A SANDBOX (cutbox-rows.mjs): the forced cells as the released guide's own fill.sh prints them over the translation 862337549e271441… (all of the seat's roots in one cut). By AI agents, Wed Nov 11 2026. No macro, syntax, notation, axiom, sorry.
-/
import Derived.Test.YtoiadmdnfcgckaaGreatDoorChecked
import GoSem.Claim
import GoSem.ClaimJoined
import GoSem.ClaimMapViews
import Derived.JoinedTies
import Derived.KernelRfl
namespace Go.Proofs.YtoiadmdnfcgckaaGreatDoor
/- THE CELL 'sum', in the pinned program and in every row, IS THE sha256 OF THE DUMP (.gsa) THAT YtoiadmdnfcgckaaGreatDoorProg.lean LOADS. Nothing in Lean hashes anything: it is a label: what it is worth is what the hold of that sum in a sandbox is worth. -/
noncomputable def Tryz.pinned : Pinned := { name := "ytoiadmdnfcgckaagreatdoor", sum := "862337549e27144135e0e972c98853fb782955f217a9dea64e375c71b9b8569c", checked := Tryz.checked }
namespace Rows
def none {H : Type} : Left H := { results := [], args := [] }

/- WHAT THE LISTED PACKAGE-LEVEL VARIABLES READ AS WHEN THE CALL BEGINS. Each datum BY PROGRAM (the guide's laid-datum.mjs) off the statement by which the dump's own 'gosem.cut.vars' lays the variable. In a bare row this is a premise. The card (YtoiadmdnfcgckaaGreatDoorCards.lean) ties it to the program's text. -/
def laid_dioptra_trap_order {H : Type} : DataW H := .agg [.lit (.int .u32 11), .lit (.int .u32 3), .lit (.int .u32 7), .lit (.int .u32 9), .lit (.int .u32 1), .lit (.int .u32 5)]
def laid_dioptra_hart_uneven {H : Type} : DataW H := .agg [.lit (.int .u32 0), .lit (.int .u32 4), .lit (.int .u32 6)]
def laid_dioptra_hart_faults {H : Type} : DataW H := .agg [.lit (.int .u32 1), .lit (.int .u32 5), .lit (.int .u32 7)]

/-- 'dioptralaw19.HartSteps': WHATEVER THE INPUT: true; the input reads as it did. -/
def hartStepsSpec : ChangeSpec := { name := "hartSteps", fn := fun _ => fun
  | [d1, d2] => { results := [.lit (.bool true)], args := [d1, d2] }
  | _ => none }
def hartStepsRow : OpenClaim := { program := "ytoiadmdnfcgckaagreatdoor", sum := "862337549e27144135e0e972c98853fb782955f217a9dea64e375c71b9b8569c", func := "dioptra/dioptralaw19.HartSteps", spec := "hartSteps", inPlace := ["internal/bytealg.IndexByteString", "internal/bytealg.IndexString"], unfollowed := true, recurses := true, named := ["dioptra/trap.order", "dioptra/hart.faults", "dioptra/hart.uneven", "internal/bytealg.MaxLen"], apart := false, laid := [("dioptra/trap.order", laid_dioptra_trap_order), ("dioptra/hart.uneven", laid_dioptra_hart_uneven), ("dioptra/hart.faults", laid_dioptra_hart_faults)] }
def HartStepsSaid : Prop := hartStepsRow.holds Tryz.pinned (OpenSpec.ofChange hartStepsSpec)

/-- ITS FALSE NEIGHBOUR: 'it returns false'. Refute it at one input. -/
def hartStepsWrong : ChangeSpec := { name := "hartSteps", fn := fun _ => fun
  | [d1, d2] => { results := [.lit (.bool false)], args := [d1, d2] }
  | _ => none }
def HartStepsWrongFalsely : Prop := hartStepsRow.holds Tryz.pinned (OpenSpec.ofChange hartStepsWrong)

/-- 'dioptralaw19.HartNew': WHATEVER THE INPUT: true; the input reads as it did. -/
def hartNewSpec : ChangeSpec := { name := "hartNew", fn := fun _ => fun
  | [d] => { results := [.lit (.bool true)], args := [d] }
  | _ => none }
def hartNewRow : OpenClaim := { program := "ytoiadmdnfcgckaagreatdoor", sum := "862337549e27144135e0e972c98853fb782955f217a9dea64e375c71b9b8569c", func := "dioptra/dioptralaw19.HartNew", spec := "hartNew", inPlace := ["internal/bytealg.IndexByteString", "internal/bytealg.IndexString"], unfollowed := true, recurses := true, named := ["dioptra/trap.order", "dioptra/hart.faults", "dioptra/hart.uneven", "internal/bytealg.MaxLen"], apart := false, laid := [("dioptra/trap.order", laid_dioptra_trap_order), ("dioptra/hart.uneven", laid_dioptra_hart_uneven), ("dioptra/hart.faults", laid_dioptra_hart_faults)] }
def HartNewSaid : Prop := hartNewRow.holds Tryz.pinned (OpenSpec.ofChange hartNewSpec)

/-- ITS FALSE NEIGHBOUR: 'it returns false'. Refute it at one input. -/
def hartNewWrong : ChangeSpec := { name := "hartNew", fn := fun _ => fun
  | [d] => { results := [.lit (.bool false)], args := [d] }
  | _ => none }
def HartNewWrongFalsely : Prop := hartNewRow.holds Tryz.pinned (OpenSpec.ofChange hartNewWrong)

/-- 'dioptralaw19.HartQuiet': WHATEVER THE INPUT: true; the input reads as it did. -/
def hartQuietSpec : ChangeSpec := { name := "hartQuiet", fn := fun _ => fun
  | [d1, d2] => { results := [.lit (.bool true)], args := [d1, d2] }
  | _ => none }
def hartQuietRow : OpenClaim := { program := "ytoiadmdnfcgckaagreatdoor", sum := "862337549e27144135e0e972c98853fb782955f217a9dea64e375c71b9b8569c", func := "dioptra/dioptralaw19.HartQuiet", spec := "hartQuiet", inPlace := ["internal/bytealg.IndexByteString", "internal/bytealg.IndexString"], unfollowed := true, recurses := true, named := ["dioptra/trap.order", "dioptra/hart.faults", "dioptra/hart.uneven", "internal/bytealg.MaxLen"], apart := false, laid := [("dioptra/trap.order", laid_dioptra_trap_order), ("dioptra/hart.uneven", laid_dioptra_hart_uneven), ("dioptra/hart.faults", laid_dioptra_hart_faults)] }
def HartQuietSaid : Prop := hartQuietRow.holds Tryz.pinned (OpenSpec.ofChange hartQuietSpec)

/-- ITS FALSE NEIGHBOUR: 'it returns false'. Refute it at one input. -/
def hartQuietWrong : ChangeSpec := { name := "hartQuiet", fn := fun _ => fun
  | [d1, d2] => { results := [.lit (.bool false)], args := [d1, d2] }
  | _ => none }
def HartQuietWrongFalsely : Prop := hartQuietRow.holds Tryz.pinned (OpenSpec.ofChange hartQuietWrong)

/-- 'dioptralaw19.HartAdds': WHATEVER THE INPUT: true; the input reads as it did. -/
def hartAddsSpec : ChangeSpec := { name := "hartAdds", fn := fun _ => fun
  | [d1, d2] => { results := [.lit (.bool true)], args := [d1, d2] }
  | _ => none }
def hartAddsRow : OpenClaim := { program := "ytoiadmdnfcgckaagreatdoor", sum := "862337549e27144135e0e972c98853fb782955f217a9dea64e375c71b9b8569c", func := "dioptra/dioptralaw19.HartAdds", spec := "hartAdds", inPlace := ["internal/bytealg.IndexByteString", "internal/bytealg.IndexString"], unfollowed := true, recurses := true, named := ["dioptra/trap.order", "dioptra/hart.faults", "dioptra/hart.uneven", "internal/bytealg.MaxLen"], apart := false, laid := [("dioptra/trap.order", laid_dioptra_trap_order), ("dioptra/hart.uneven", laid_dioptra_hart_uneven), ("dioptra/hart.faults", laid_dioptra_hart_faults)] }
def HartAddsSaid : Prop := hartAddsRow.holds Tryz.pinned (OpenSpec.ofChange hartAddsSpec)

/-- ITS FALSE NEIGHBOUR: 'it returns false'. Refute it at one input. -/
def hartAddsWrong : ChangeSpec := { name := "hartAdds", fn := fun _ => fun
  | [d1, d2] => { results := [.lit (.bool false)], args := [d1, d2] }
  | _ => none }
def HartAddsWrongFalsely : Prop := hartAddsRow.holds Tryz.pinned (OpenSpec.ofChange hartAddsWrong)

/-- 'dioptralaw19.HartFar': WHATEVER THE INPUT: true; the input reads as it did. -/
def hartFarSpec : ChangeSpec := { name := "hartFar", fn := fun _ => fun
  | [d1, d2] => { results := [.lit (.bool true)], args := [d1, d2] }
  | _ => none }
def hartFarRow : OpenClaim := { program := "ytoiadmdnfcgckaagreatdoor", sum := "862337549e27144135e0e972c98853fb782955f217a9dea64e375c71b9b8569c", func := "dioptra/dioptralaw19.HartFar", spec := "hartFar", inPlace := ["internal/bytealg.IndexByteString", "internal/bytealg.IndexString"], unfollowed := true, recurses := true, named := ["dioptra/trap.order", "dioptra/hart.faults", "dioptra/hart.uneven", "internal/bytealg.MaxLen"], apart := false, laid := [("dioptra/trap.order", laid_dioptra_trap_order), ("dioptra/hart.uneven", laid_dioptra_hart_uneven), ("dioptra/hart.faults", laid_dioptra_hart_faults)] }
def HartFarSaid : Prop := hartFarRow.holds Tryz.pinned (OpenSpec.ofChange hartFarSpec)

/-- ITS FALSE NEIGHBOUR: 'it returns false'. Refute it at one input. -/
def hartFarWrong : ChangeSpec := { name := "hartFar", fn := fun _ => fun
  | [d1, d2] => { results := [.lit (.bool false)], args := [d1, d2] }
  | _ => none }
def HartFarWrongFalsely : Prop := hartFarRow.holds Tryz.pinned (OpenSpec.ofChange hartFarWrong)

/-- 'dioptralaw19.HartHolds': WHATEVER THE INPUT: true; the input reads as it did. -/
def hartHoldsSpec : ChangeSpec := { name := "hartHolds", fn := fun _ => fun
  | [d1, d2, d3] => { results := [.lit (.bool true)], args := [d1, d2, d3] }
  | _ => none }
def hartHoldsRow : OpenClaim := { program := "ytoiadmdnfcgckaagreatdoor", sum := "862337549e27144135e0e972c98853fb782955f217a9dea64e375c71b9b8569c", func := "dioptra/dioptralaw19.HartHolds", spec := "hartHolds", inPlace := ["internal/bytealg.IndexByteString", "internal/bytealg.IndexString"], unfollowed := true, recurses := true, named := ["dioptra/trap.order", "dioptra/hart.faults", "dioptra/hart.uneven", "internal/bytealg.MaxLen"], apart := false, laid := [("dioptra/trap.order", laid_dioptra_trap_order), ("dioptra/hart.uneven", laid_dioptra_hart_uneven), ("dioptra/hart.faults", laid_dioptra_hart_faults)] }
def HartHoldsSaid : Prop := hartHoldsRow.holds Tryz.pinned (OpenSpec.ofChange hartHoldsSpec)

/-- ITS FALSE NEIGHBOUR: 'it returns false'. Refute it at one input. -/
def hartHoldsWrong : ChangeSpec := { name := "hartHolds", fn := fun _ => fun
  | [d1, d2, d3] => { results := [.lit (.bool false)], args := [d1, d2, d3] }
  | _ => none }
def HartHoldsWrongFalsely : Prop := hartHoldsRow.holds Tryz.pinned (OpenSpec.ofChange hartHoldsWrong)

/-- 'dioptralaw19.HartCalls': WHATEVER THE INPUT: true; the input reads as it did. -/
def hartCallsSpec : ChangeSpec := { name := "hartCalls", fn := fun _ => fun
  | [d1, d2, d3] => { results := [.lit (.bool true)], args := [d1, d2, d3] }
  | _ => none }
def hartCallsRow : OpenClaim := { program := "ytoiadmdnfcgckaagreatdoor", sum := "862337549e27144135e0e972c98853fb782955f217a9dea64e375c71b9b8569c", func := "dioptra/dioptralaw19.HartCalls", spec := "hartCalls", inPlace := ["internal/bytealg.IndexByteString", "internal/bytealg.IndexString"], unfollowed := true, recurses := true, named := ["dioptra/trap.order", "dioptra/hart.faults", "dioptra/hart.uneven", "internal/bytealg.MaxLen"], apart := false, laid := [("dioptra/trap.order", laid_dioptra_trap_order), ("dioptra/hart.uneven", laid_dioptra_hart_uneven), ("dioptra/hart.faults", laid_dioptra_hart_faults)] }
def HartCallsSaid : Prop := hartCallsRow.holds Tryz.pinned (OpenSpec.ofChange hartCallsSpec)

/-- ITS FALSE NEIGHBOUR: 'it returns false'. Refute it at one input. -/
def hartCallsWrong : ChangeSpec := { name := "hartCalls", fn := fun _ => fun
  | [d1, d2, d3] => { results := [.lit (.bool false)], args := [d1, d2, d3] }
  | _ => none }
def HartCallsWrongFalsely : Prop := hartCallsRow.holds Tryz.pinned (OpenSpec.ofChange hartCallsWrong)

/- THE SECOND FORM. 'bulk': how many values and letters a reading holds, each counted each time it is reached (what is shared counts as often as it is met; a slice's spare places count too). A statement '..UptoSaid' is the law's where the arguments, and the package variables that the reading takes, are together of bulk at most 1048576: NARROWER than '..Said'. Prove '..Said' where nothing that the law and all that it calls make is longer than what came in: it says more and counts as full. Else prove '..UptoSaid'. A law counts once. -/
mutual
def uptoBulk {H : Type} : DataW H → Nat
  | .lit (.string bytes) => bytes.length + 1
  | .lit _ => 1
  | .nil => 1
  | .ptr d => uptoBulk d + 1
  | .slice elems spare => uptoBulkAll elems + uptoBulkAll spare + 1
  | .agg parts => uptoBulkAll parts + 1
  | .iface _ d => uptoBulk d + 1
  | .map entries => uptoBulkEntries entries + 1
  | .held _ => 1
def uptoBulkAll {H : Type} : List (DataW H) → Nat
  | [] => 0
  | d :: r => uptoBulk d + uptoBulkAll r
def uptoBulkEntries {H : Type} : List (Lit × DataW H) → Nat
  | [] => 0
  | x :: r => uptoBulkEntry x + uptoBulkEntries r
def uptoBulkEntry {H : Type} : Lit × DataW H → Nat
  | (.string bytes, d) => bytes.length + uptoBulk d + 1
  | (_, d) => uptoBulk d + 1
 end
def uptoSmall : (H : Type) → List (DataW H) → Bool := fun _ ds => decide (uptoBulkAll ds ≤ 1048576)
def OpenSpec.upto (s : _root_.Go.ChangeSpec) : _root_.Go.OpenSpec := { _root_.Go.OpenSpec.ofChange s with cond := some uptoSmall }

/-- 'dioptralaw19.HartSteps', WHERE WHAT IT READS IS OF BULK AT MOST 1048576: true; the input reads as it did. -/
def hartStepsUptoRow : OpenClaim := { program := "ytoiadmdnfcgckaagreatdoor", sum := "862337549e27144135e0e972c98853fb782955f217a9dea64e375c71b9b8569c", func := "dioptra/dioptralaw19.HartSteps", spec := "hartSteps", inPlace := ["internal/bytealg.IndexByteString", "internal/bytealg.IndexString"], unfollowed := true, recurses := true, named := ["dioptra/trap.order", "dioptra/hart.faults", "dioptra/hart.uneven", "internal/bytealg.MaxLen"], apart := false, laid := [("dioptra/trap.order", laid_dioptra_trap_order), ("dioptra/hart.uneven", laid_dioptra_hart_uneven), ("dioptra/hart.faults", laid_dioptra_hart_faults)], narrowed := true }
def HartStepsUptoSaid : Prop := hartStepsUptoRow.holds Tryz.pinned (OpenSpec.upto hartStepsSpec)

/-- 'dioptralaw19.HartNew', WHERE WHAT IT READS IS OF BULK AT MOST 1048576: true; the input reads as it did. -/
def hartNewUptoRow : OpenClaim := { program := "ytoiadmdnfcgckaagreatdoor", sum := "862337549e27144135e0e972c98853fb782955f217a9dea64e375c71b9b8569c", func := "dioptra/dioptralaw19.HartNew", spec := "hartNew", inPlace := ["internal/bytealg.IndexByteString", "internal/bytealg.IndexString"], unfollowed := true, recurses := true, named := ["dioptra/trap.order", "dioptra/hart.faults", "dioptra/hart.uneven", "internal/bytealg.MaxLen"], apart := false, laid := [("dioptra/trap.order", laid_dioptra_trap_order), ("dioptra/hart.uneven", laid_dioptra_hart_uneven), ("dioptra/hart.faults", laid_dioptra_hart_faults)], narrowed := true }
def HartNewUptoSaid : Prop := hartNewUptoRow.holds Tryz.pinned (OpenSpec.upto hartNewSpec)

/-- 'dioptralaw19.HartQuiet', WHERE WHAT IT READS IS OF BULK AT MOST 1048576: true; the input reads as it did. -/
def hartQuietUptoRow : OpenClaim := { program := "ytoiadmdnfcgckaagreatdoor", sum := "862337549e27144135e0e972c98853fb782955f217a9dea64e375c71b9b8569c", func := "dioptra/dioptralaw19.HartQuiet", spec := "hartQuiet", inPlace := ["internal/bytealg.IndexByteString", "internal/bytealg.IndexString"], unfollowed := true, recurses := true, named := ["dioptra/trap.order", "dioptra/hart.faults", "dioptra/hart.uneven", "internal/bytealg.MaxLen"], apart := false, laid := [("dioptra/trap.order", laid_dioptra_trap_order), ("dioptra/hart.uneven", laid_dioptra_hart_uneven), ("dioptra/hart.faults", laid_dioptra_hart_faults)], narrowed := true }
def HartQuietUptoSaid : Prop := hartQuietUptoRow.holds Tryz.pinned (OpenSpec.upto hartQuietSpec)

/-- 'dioptralaw19.HartAdds', WHERE WHAT IT READS IS OF BULK AT MOST 1048576: true; the input reads as it did. -/
def hartAddsUptoRow : OpenClaim := { program := "ytoiadmdnfcgckaagreatdoor", sum := "862337549e27144135e0e972c98853fb782955f217a9dea64e375c71b9b8569c", func := "dioptra/dioptralaw19.HartAdds", spec := "hartAdds", inPlace := ["internal/bytealg.IndexByteString", "internal/bytealg.IndexString"], unfollowed := true, recurses := true, named := ["dioptra/trap.order", "dioptra/hart.faults", "dioptra/hart.uneven", "internal/bytealg.MaxLen"], apart := false, laid := [("dioptra/trap.order", laid_dioptra_trap_order), ("dioptra/hart.uneven", laid_dioptra_hart_uneven), ("dioptra/hart.faults", laid_dioptra_hart_faults)], narrowed := true }
def HartAddsUptoSaid : Prop := hartAddsUptoRow.holds Tryz.pinned (OpenSpec.upto hartAddsSpec)

/-- 'dioptralaw19.HartFar', WHERE WHAT IT READS IS OF BULK AT MOST 1048576: true; the input reads as it did. -/
def hartFarUptoRow : OpenClaim := { program := "ytoiadmdnfcgckaagreatdoor", sum := "862337549e27144135e0e972c98853fb782955f217a9dea64e375c71b9b8569c", func := "dioptra/dioptralaw19.HartFar", spec := "hartFar", inPlace := ["internal/bytealg.IndexByteString", "internal/bytealg.IndexString"], unfollowed := true, recurses := true, named := ["dioptra/trap.order", "dioptra/hart.faults", "dioptra/hart.uneven", "internal/bytealg.MaxLen"], apart := false, laid := [("dioptra/trap.order", laid_dioptra_trap_order), ("dioptra/hart.uneven", laid_dioptra_hart_uneven), ("dioptra/hart.faults", laid_dioptra_hart_faults)], narrowed := true }
def HartFarUptoSaid : Prop := hartFarUptoRow.holds Tryz.pinned (OpenSpec.upto hartFarSpec)

/-- 'dioptralaw19.HartHolds', WHERE WHAT IT READS IS OF BULK AT MOST 1048576: true; the input reads as it did. -/
def hartHoldsUptoRow : OpenClaim := { program := "ytoiadmdnfcgckaagreatdoor", sum := "862337549e27144135e0e972c98853fb782955f217a9dea64e375c71b9b8569c", func := "dioptra/dioptralaw19.HartHolds", spec := "hartHolds", inPlace := ["internal/bytealg.IndexByteString", "internal/bytealg.IndexString"], unfollowed := true, recurses := true, named := ["dioptra/trap.order", "dioptra/hart.faults", "dioptra/hart.uneven", "internal/bytealg.MaxLen"], apart := false, laid := [("dioptra/trap.order", laid_dioptra_trap_order), ("dioptra/hart.uneven", laid_dioptra_hart_uneven), ("dioptra/hart.faults", laid_dioptra_hart_faults)], narrowed := true }
def HartHoldsUptoSaid : Prop := hartHoldsUptoRow.holds Tryz.pinned (OpenSpec.upto hartHoldsSpec)

/-- 'dioptralaw19.HartCalls', WHERE WHAT IT READS IS OF BULK AT MOST 1048576: true; the input reads as it did. -/
def hartCallsUptoRow : OpenClaim := { program := "ytoiadmdnfcgckaagreatdoor", sum := "862337549e27144135e0e972c98853fb782955f217a9dea64e375c71b9b8569c", func := "dioptra/dioptralaw19.HartCalls", spec := "hartCalls", inPlace := ["internal/bytealg.IndexByteString", "internal/bytealg.IndexString"], unfollowed := true, recurses := true, named := ["dioptra/trap.order", "dioptra/hart.faults", "dioptra/hart.uneven", "internal/bytealg.MaxLen"], apart := false, laid := [("dioptra/trap.order", laid_dioptra_trap_order), ("dioptra/hart.uneven", laid_dioptra_hart_uneven), ("dioptra/hart.faults", laid_dioptra_hart_faults)], narrowed := true }
def HartCallsUptoSaid : Prop := hartCallsUptoRow.holds Tryz.pinned (OpenSpec.upto hartCallsSpec)

end Rows
end Go.Proofs.YtoiadmdnfcgckaaGreatDoor
