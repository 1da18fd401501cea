/-
  NARROWER THAN 'FOR EVERY INPUT', by the rows' own cells (each row's printed sentence says how): MachineClock: laid · MachineDisk: laid · MachineParts: laid · MachineRuns: laid · MachineBoots: laid · MachineTalks: laid.
  DERIVED. THE GIVEN ROWS OF THIS SEAT. 6 by the template 'for every input the law returns true; each argument reads behind the call as it read before'; 0 by the template 'total and deterministic' (their statements: YtnjenhdfeeonoaaGreatDoorTotals.lean).
  GIVEN WITH THE SEED: the statements are not yours to turn. If you find one false, say at which input.
  Laid BY PROGRAM, IN A SANDBOX (cutbox-rows.mjs): the forced cells as the released guide's own fill.sh prints them over the translation 8cbfa8468a5c3410… (all of the seat's roots in one cut). By AI agents, Wed Nov 11 2026. No macro, syntax, notation, axiom, sorry.
-/
import Derived.Test.YtnjenhdfeeonoaaGreatDoorChecked
import GoSem.Claim
import GoSem.ClaimJoined
import GoSem.ClaimMapViews
import Derived.JoinedTies
import Derived.KernelRfl
namespace Go.Proofs.YtnjenhdfeeonoaaGreatDoor
/- THE CELL 'sum', in the pinned program and in every row, IS THE sha256 OF THE DUMP (.gsa) THAT YtnjenhdfeeonoaaGreatDoorProg.lean LOADS. Nothing in Lean hashes anything: it is a label: what it is worth is what the hold of that sum in a sandbox is worth. -/
noncomputable def Tryz.pinned : Pinned := { name := "ytnjenhdfeeonoaagreatdoor", sum := "8cbfa8468a5c34109f17eb855d34b75c7fe3135431e1a80b329e76e9d7afffa5", checked := Tryz.checked }
namespace Rows
def none {H : Type} : Left H := { results := [], args := [] }

/- WHAT THE LISTED PACKAGE-LEVEL VARIABLES READ AS WHEN THE CALL BEGINS. Each datum BY PROGRAM (the guide's laid-datum.mjs) off the statement by which the dump's own 'gosem.cut.vars' lays the variable. In a bare row this is a premise. The card (YtnjenhdfeeonoaaGreatDoorCards.lean) ties it to the program's text. -/
def laid_dioptra_trap_order {H : Type} : DataW H := .agg [.lit (.int .u32 11), .lit (.int .u32 3), .lit (.int .u32 7), .lit (.int .u32 9), .lit (.int .u32 1), .lit (.int .u32 5)]
def laid_dioptra_hart_uneven {H : Type} : DataW H := .agg [.lit (.int .u32 0), .lit (.int .u32 4), .lit (.int .u32 6)]
def laid_dioptra_hart_faults {H : Type} : DataW H := .agg [.lit (.int .u32 1), .lit (.int .u32 5), .lit (.int .u32 7)]

/-- 'dioptralaw20.MachineClock': WHATEVER THE INPUT: true; the input reads as it did. -/
def machineClockSpec : ChangeSpec := { name := "machineClock", fn := fun _ => fun
  | [d] => { results := [.lit (.bool true)], args := [d] }
  | _ => none }
def machineClockRow : OpenClaim := { program := "ytnjenhdfeeonoaagreatdoor", sum := "8cbfa8468a5c34109f17eb855d34b75c7fe3135431e1a80b329e76e9d7afffa5", func := "dioptra/dioptralaw20.MachineClock", spec := "machineClock", inPlace := ["internal/bytealg.IndexByteString", "internal/bytealg.IndexString"], unfollowed := true, recurses := true, named := ["dioptra/trap.order", "dioptra/hart.faults", "dioptra/hart.uneven", "internal/bytealg.MaxLen"], apart := false, laid := [("dioptra/trap.order", laid_dioptra_trap_order), ("dioptra/hart.uneven", laid_dioptra_hart_uneven), ("dioptra/hart.faults", laid_dioptra_hart_faults)] }
def MachineClockSaid : Prop := machineClockRow.holds Tryz.pinned (OpenSpec.ofChange machineClockSpec)

/-- ITS FALSE NEIGHBOUR: 'it returns false'. Refute it at one input. -/
def machineClockWrong : ChangeSpec := { name := "machineClock", fn := fun _ => fun
  | [d] => { results := [.lit (.bool false)], args := [d] }
  | _ => none }
def MachineClockWrongFalsely : Prop := machineClockRow.holds Tryz.pinned (OpenSpec.ofChange machineClockWrong)

/-- 'dioptralaw20.MachineDisk': WHATEVER THE INPUT: true; the input reads as it did. -/
def machineDiskSpec : ChangeSpec := { name := "machineDisk", fn := fun _ => fun
  | [d1, d2] => { results := [.lit (.bool true)], args := [d1, d2] }
  | _ => none }
def machineDiskRow : OpenClaim := { program := "ytnjenhdfeeonoaagreatdoor", sum := "8cbfa8468a5c34109f17eb855d34b75c7fe3135431e1a80b329e76e9d7afffa5", func := "dioptra/dioptralaw20.MachineDisk", spec := "machineDisk", inPlace := ["internal/bytealg.IndexByteString", "internal/bytealg.IndexString"], unfollowed := true, recurses := true, named := ["dioptra/trap.order", "dioptra/hart.faults", "dioptra/hart.uneven", "internal/bytealg.MaxLen"], apart := false, laid := [("dioptra/trap.order", laid_dioptra_trap_order), ("dioptra/hart.uneven", laid_dioptra_hart_uneven), ("dioptra/hart.faults", laid_dioptra_hart_faults)] }
def MachineDiskSaid : Prop := machineDiskRow.holds Tryz.pinned (OpenSpec.ofChange machineDiskSpec)

/-- ITS FALSE NEIGHBOUR: 'it returns false'. Refute it at one input. -/
def machineDiskWrong : ChangeSpec := { name := "machineDisk", fn := fun _ => fun
  | [d1, d2] => { results := [.lit (.bool false)], args := [d1, d2] }
  | _ => none }
def MachineDiskWrongFalsely : Prop := machineDiskRow.holds Tryz.pinned (OpenSpec.ofChange machineDiskWrong)

/-- 'dioptralaw20.MachineParts': WHATEVER THE INPUT: true; the input reads as it did. -/
def machinePartsSpec : ChangeSpec := { name := "machineParts", fn := fun _ => fun
  | [d1, d2] => { results := [.lit (.bool true)], args := [d1, d2] }
  | _ => none }
def machinePartsRow : OpenClaim := { program := "ytnjenhdfeeonoaagreatdoor", sum := "8cbfa8468a5c34109f17eb855d34b75c7fe3135431e1a80b329e76e9d7afffa5", func := "dioptra/dioptralaw20.MachineParts", spec := "machineParts", inPlace := ["internal/bytealg.IndexByteString", "internal/bytealg.IndexString"], unfollowed := true, recurses := true, named := ["dioptra/trap.order", "dioptra/hart.faults", "dioptra/hart.uneven", "internal/bytealg.MaxLen"], apart := false, laid := [("dioptra/trap.order", laid_dioptra_trap_order), ("dioptra/hart.uneven", laid_dioptra_hart_uneven), ("dioptra/hart.faults", laid_dioptra_hart_faults)] }
def MachinePartsSaid : Prop := machinePartsRow.holds Tryz.pinned (OpenSpec.ofChange machinePartsSpec)

/-- ITS FALSE NEIGHBOUR: 'it returns false'. Refute it at one input. -/
def machinePartsWrong : ChangeSpec := { name := "machineParts", fn := fun _ => fun
  | [d1, d2] => { results := [.lit (.bool false)], args := [d1, d2] }
  | _ => none }
def MachinePartsWrongFalsely : Prop := machinePartsRow.holds Tryz.pinned (OpenSpec.ofChange machinePartsWrong)

/-- 'dioptralaw20.MachineRuns': WHATEVER THE INPUT: true; the input reads as it did. -/
def machineRunsSpec : ChangeSpec := { name := "machineRuns", fn := fun _ => fun
  | [d] => { results := [.lit (.bool true)], args := [d] }
  | _ => none }
def machineRunsRow : OpenClaim := { program := "ytnjenhdfeeonoaagreatdoor", sum := "8cbfa8468a5c34109f17eb855d34b75c7fe3135431e1a80b329e76e9d7afffa5", func := "dioptra/dioptralaw20.MachineRuns", spec := "machineRuns", inPlace := ["internal/bytealg.IndexByteString", "internal/bytealg.IndexString"], unfollowed := true, recurses := true, named := ["dioptra/trap.order", "dioptra/hart.faults", "dioptra/hart.uneven", "internal/bytealg.MaxLen"], apart := false, laid := [("dioptra/trap.order", laid_dioptra_trap_order), ("dioptra/hart.uneven", laid_dioptra_hart_uneven), ("dioptra/hart.faults", laid_dioptra_hart_faults)] }
def MachineRunsSaid : Prop := machineRunsRow.holds Tryz.pinned (OpenSpec.ofChange machineRunsSpec)

/-- ITS FALSE NEIGHBOUR: 'it returns false'. Refute it at one input. -/
def machineRunsWrong : ChangeSpec := { name := "machineRuns", fn := fun _ => fun
  | [d] => { results := [.lit (.bool false)], args := [d] }
  | _ => none }
def MachineRunsWrongFalsely : Prop := machineRunsRow.holds Tryz.pinned (OpenSpec.ofChange machineRunsWrong)

/-- 'dioptralaw20.MachineBoots': WHATEVER THE INPUT: true; the input reads as it did. -/
def machineBootsSpec : ChangeSpec := { name := "machineBoots", fn := fun _ => fun
  | [d1, d2] => { results := [.lit (.bool true)], args := [d1, d2] }
  | _ => none }
def machineBootsRow : OpenClaim := { program := "ytnjenhdfeeonoaagreatdoor", sum := "8cbfa8468a5c34109f17eb855d34b75c7fe3135431e1a80b329e76e9d7afffa5", func := "dioptra/dioptralaw20.MachineBoots", spec := "machineBoots", inPlace := ["internal/bytealg.IndexByteString", "internal/bytealg.IndexString"], unfollowed := true, recurses := true, named := ["dioptra/trap.order", "dioptra/hart.faults", "dioptra/hart.uneven", "internal/bytealg.MaxLen"], apart := false, laid := [("dioptra/trap.order", laid_dioptra_trap_order), ("dioptra/hart.uneven", laid_dioptra_hart_uneven), ("dioptra/hart.faults", laid_dioptra_hart_faults)] }
def MachineBootsSaid : Prop := machineBootsRow.holds Tryz.pinned (OpenSpec.ofChange machineBootsSpec)

/-- ITS FALSE NEIGHBOUR: 'it returns false'. Refute it at one input. -/
def machineBootsWrong : ChangeSpec := { name := "machineBoots", fn := fun _ => fun
  | [d1, d2] => { results := [.lit (.bool false)], args := [d1, d2] }
  | _ => none }
def MachineBootsWrongFalsely : Prop := machineBootsRow.holds Tryz.pinned (OpenSpec.ofChange machineBootsWrong)

/-- 'dioptralaw20.MachineTalks': WHATEVER THE INPUT: true; the input reads as it did. -/
def machineTalksSpec : ChangeSpec := { name := "machineTalks", fn := fun _ => fun
  | [d] => { results := [.lit (.bool true)], args := [d] }
  | _ => none }
def machineTalksRow : OpenClaim := { program := "ytnjenhdfeeonoaagreatdoor", sum := "8cbfa8468a5c34109f17eb855d34b75c7fe3135431e1a80b329e76e9d7afffa5", func := "dioptra/dioptralaw20.MachineTalks", spec := "machineTalks", inPlace := ["internal/bytealg.IndexByteString", "internal/bytealg.IndexString"], unfollowed := true, recurses := true, named := ["dioptra/trap.order", "dioptra/hart.faults", "dioptra/hart.uneven", "internal/bytealg.MaxLen"], apart := false, laid := [("dioptra/trap.order", laid_dioptra_trap_order), ("dioptra/hart.uneven", laid_dioptra_hart_uneven), ("dioptra/hart.faults", laid_dioptra_hart_faults)] }
def MachineTalksSaid : Prop := machineTalksRow.holds Tryz.pinned (OpenSpec.ofChange machineTalksSpec)

/-- ITS FALSE NEIGHBOUR: 'it returns false'. Refute it at one input. -/
def machineTalksWrong : ChangeSpec := { name := "machineTalks", fn := fun _ => fun
  | [d] => { results := [.lit (.bool false)], args := [d] }
  | _ => none }
def MachineTalksWrongFalsely : Prop := machineTalksRow.holds Tryz.pinned (OpenSpec.ofChange machineTalksWrong)

/- THE SECOND FORM. 'bulk': how many values and letters a reading holds, each counted each time it is reached (what is shared counts as often as it is met; a slice's spare places count too). A statement '..UptoSaid' is the law's where the arguments, and the package variables that the reading takes, are together of bulk at most 1048576: NARROWER than '..Said'. Prove '..Said' where nothing that the law and all that it calls make is longer than what came in: it says more and counts as full. Else prove '..UptoSaid'. A law counts once. -/
mutual
def uptoBulk {H : Type} : DataW H → Nat
  | .lit (.string bytes) => bytes.length + 1
  | .lit _ => 1
  | .nil => 1
  | .ptr d => uptoBulk d + 1
  | .slice elems spare => uptoBulkAll elems + uptoBulkAll spare + 1
  | .agg parts => uptoBulkAll parts + 1
  | .iface _ d => uptoBulk d + 1
  | .map entries => uptoBulkEntries entries + 1
  | .held _ => 1
def uptoBulkAll {H : Type} : List (DataW H) → Nat
  | [] => 0
  | d :: r => uptoBulk d + uptoBulkAll r
def uptoBulkEntries {H : Type} : List (Lit × DataW H) → Nat
  | [] => 0
  | x :: r => uptoBulkEntry x + uptoBulkEntries r
def uptoBulkEntry {H : Type} : Lit × DataW H → Nat
  | (.string bytes, d) => bytes.length + uptoBulk d + 1
  | (_, d) => uptoBulk d + 1
 end
def uptoSmall : (H : Type) → List (DataW H) → Bool := fun _ ds => decide (uptoBulkAll ds ≤ 1048576)
def OpenSpec.upto (s : _root_.Go.ChangeSpec) : _root_.Go.OpenSpec := { _root_.Go.OpenSpec.ofChange s with cond := some uptoSmall }

/-- 'dioptralaw20.MachineClock', WHERE WHAT IT READS IS OF BULK AT MOST 1048576: true; the input reads as it did. -/
def machineClockUptoRow : OpenClaim := { program := "ytnjenhdfeeonoaagreatdoor", sum := "8cbfa8468a5c34109f17eb855d34b75c7fe3135431e1a80b329e76e9d7afffa5", func := "dioptra/dioptralaw20.MachineClock", spec := "machineClock", inPlace := ["internal/bytealg.IndexByteString", "internal/bytealg.IndexString"], unfollowed := true, recurses := true, named := ["dioptra/trap.order", "dioptra/hart.faults", "dioptra/hart.uneven", "internal/bytealg.MaxLen"], apart := false, laid := [("dioptra/trap.order", laid_dioptra_trap_order), ("dioptra/hart.uneven", laid_dioptra_hart_uneven), ("dioptra/hart.faults", laid_dioptra_hart_faults)], narrowed := true }
def MachineClockUptoSaid : Prop := machineClockUptoRow.holds Tryz.pinned (OpenSpec.upto machineClockSpec)

/-- 'dioptralaw20.MachineDisk', WHERE WHAT IT READS IS OF BULK AT MOST 1048576: true; the input reads as it did. -/
def machineDiskUptoRow : OpenClaim := { program := "ytnjenhdfeeonoaagreatdoor", sum := "8cbfa8468a5c34109f17eb855d34b75c7fe3135431e1a80b329e76e9d7afffa5", func := "dioptra/dioptralaw20.MachineDisk", spec := "machineDisk", inPlace := ["internal/bytealg.IndexByteString", "internal/bytealg.IndexString"], unfollowed := true, recurses := true, named := ["dioptra/trap.order", "dioptra/hart.faults", "dioptra/hart.uneven", "internal/bytealg.MaxLen"], apart := false, laid := [("dioptra/trap.order", laid_dioptra_trap_order), ("dioptra/hart.uneven", laid_dioptra_hart_uneven), ("dioptra/hart.faults", laid_dioptra_hart_faults)], narrowed := true }
def MachineDiskUptoSaid : Prop := machineDiskUptoRow.holds Tryz.pinned (OpenSpec.upto machineDiskSpec)

/-- 'dioptralaw20.MachineParts', WHERE WHAT IT READS IS OF BULK AT MOST 1048576: true; the input reads as it did. -/
def machinePartsUptoRow : OpenClaim := { program := "ytnjenhdfeeonoaagreatdoor", sum := "8cbfa8468a5c34109f17eb855d34b75c7fe3135431e1a80b329e76e9d7afffa5", func := "dioptra/dioptralaw20.MachineParts", spec := "machineParts", inPlace := ["internal/bytealg.IndexByteString", "internal/bytealg.IndexString"], unfollowed := true, recurses := true, named := ["dioptra/trap.order", "dioptra/hart.faults", "dioptra/hart.uneven", "internal/bytealg.MaxLen"], apart := false, laid := [("dioptra/trap.order", laid_dioptra_trap_order), ("dioptra/hart.uneven", laid_dioptra_hart_uneven), ("dioptra/hart.faults", laid_dioptra_hart_faults)], narrowed := true }
def MachinePartsUptoSaid : Prop := machinePartsUptoRow.holds Tryz.pinned (OpenSpec.upto machinePartsSpec)

/-- 'dioptralaw20.MachineRuns', WHERE WHAT IT READS IS OF BULK AT MOST 1048576: true; the input reads as it did. -/
def machineRunsUptoRow : OpenClaim := { program := "ytnjenhdfeeonoaagreatdoor", sum := "8cbfa8468a5c34109f17eb855d34b75c7fe3135431e1a80b329e76e9d7afffa5", func := "dioptra/dioptralaw20.MachineRuns", spec := "machineRuns", inPlace := ["internal/bytealg.IndexByteString", "internal/bytealg.IndexString"], unfollowed := true, recurses := true, named := ["dioptra/trap.order", "dioptra/hart.faults", "dioptra/hart.uneven", "internal/bytealg.MaxLen"], apart := false, laid := [("dioptra/trap.order", laid_dioptra_trap_order), ("dioptra/hart.uneven", laid_dioptra_hart_uneven), ("dioptra/hart.faults", laid_dioptra_hart_faults)], narrowed := true }
def MachineRunsUptoSaid : Prop := machineRunsUptoRow.holds Tryz.pinned (OpenSpec.upto machineRunsSpec)

/-- 'dioptralaw20.MachineBoots', WHERE WHAT IT READS IS OF BULK AT MOST 1048576: true; the input reads as it did. -/
def machineBootsUptoRow : OpenClaim := { program := "ytnjenhdfeeonoaagreatdoor", sum := "8cbfa8468a5c34109f17eb855d34b75c7fe3135431e1a80b329e76e9d7afffa5", func := "dioptra/dioptralaw20.MachineBoots", spec := "machineBoots", inPlace := ["internal/bytealg.IndexByteString", "internal/bytealg.IndexString"], unfollowed := true, recurses := true, named := ["dioptra/trap.order", "dioptra/hart.faults", "dioptra/hart.uneven", "internal/bytealg.MaxLen"], apart := false, laid := [("dioptra/trap.order", laid_dioptra_trap_order), ("dioptra/hart.uneven", laid_dioptra_hart_uneven), ("dioptra/hart.faults", laid_dioptra_hart_faults)], narrowed := true }
def MachineBootsUptoSaid : Prop := machineBootsUptoRow.holds Tryz.pinned (OpenSpec.upto machineBootsSpec)

/-- 'dioptralaw20.MachineTalks', WHERE WHAT IT READS IS OF BULK AT MOST 1048576: true; the input reads as it did. -/
def machineTalksUptoRow : OpenClaim := { program := "ytnjenhdfeeonoaagreatdoor", sum := "8cbfa8468a5c34109f17eb855d34b75c7fe3135431e1a80b329e76e9d7afffa5", func := "dioptra/dioptralaw20.MachineTalks", spec := "machineTalks", inPlace := ["internal/bytealg.IndexByteString", "internal/bytealg.IndexString"], unfollowed := true, recurses := true, named := ["dioptra/trap.order", "dioptra/hart.faults", "dioptra/hart.uneven", "internal/bytealg.MaxLen"], apart := false, laid := [("dioptra/trap.order", laid_dioptra_trap_order), ("dioptra/hart.uneven", laid_dioptra_hart_uneven), ("dioptra/hart.faults", laid_dioptra_hart_faults)], narrowed := true }
def MachineTalksUptoSaid : Prop := machineTalksUptoRow.holds Tryz.pinned (OpenSpec.upto machineTalksSpec)

end Rows
end Go.Proofs.YtnjenhdfeeonoaaGreatDoor
