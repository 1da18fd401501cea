/- MachineDisk: steps. -/
import Derived.Test.YtnjenhdfeeonoaaGreatDoorMachDiskM
namespace Go.Proofs.YtnjenhdfeeonoaaGreatDoor
open Go.RowKit Go.ChangeShapes Go.WideShapes Go.ChangeAt
set_option maxHeartbeats 4000000

namespace machDisk
open machA
theorem rf4_0 : Sy.runM Tryz.prog hk 100000 ⟨vs, [((.lt (.bin .rem .u32 (.v 0) (.c 5)) (.c 4)), false), ((.lt (.bin .rem .u32 (.v 0) (.c 5)) (.c 3)), false), ((.lt (.bin .rem .u32 (.v 0) (.c 5)) (.c 2)), false), ((.lt (.bin .rem .u32 (.v 0) (.c 5)) (.c 1)), false)], [], 3⟩ 14 [(.ptr 13 0)] M8 3 (.tup []) N4_0 = true := by kernel_rfl
theorem f4_0 (ρ : Nat → Int) (hg : Sy.Gok ρ ⟨vs, [], [], 0⟩) : Sy.EntM Tryz.prog 3 ρ ⟨[((.lt (.bin .rem .u32 (.v 0) (.c 5)) (.c 4)), false), ((.lt (.bin .rem .u32 (.v 0) (.c 5)) (.c 3)), false), ((.lt (.bin .rem .u32 (.v 0) (.c 5)) (.c 2)), false), ((.lt (.bin .rem .u32 (.v 0) (.c 5)) (.c 1)), false)], 14, [(.ptr 13 0)], M8, 3, .ret (.tup [], N4_0)⟩ := Sy.entM_run (by kernel_rfl) (hk_ok ρ hg) 100000 (fun hp => Sy.gok_more' hg hp) rfl rf4_0
theorem rf4_1 : Sy.runM Tryz.prog hk 100000 ⟨vs, [((.lt (.bin .rem .u32 (.v 0) (.c 5)) (.c 4)), false), ((.lt (.bin .rem .u32 (.v 0) (.c 5)) (.c 3)), false), ((.lt (.bin .rem .u32 (.v 0) (.c 5)) (.c 2)), false), ((.lt (.bin .rem .u32 (.v 0) (.c 5)) (.c 1)), false)], [], 3⟩ 14 [(.ptr 13 0)] N4_0 3 (.tup []) N4_1 = true := by kernel_rfl
theorem f4_1 (ρ : Nat → Int) (hg : Sy.Gok ρ ⟨vs, [], [], 0⟩) : Sy.EntM Tryz.prog 3 ρ ⟨[((.lt (.bin .rem .u32 (.v 0) (.c 5)) (.c 4)), false), ((.lt (.bin .rem .u32 (.v 0) (.c 5)) (.c 3)), false), ((.lt (.bin .rem .u32 (.v 0) (.c 5)) (.c 2)), false), ((.lt (.bin .rem .u32 (.v 0) (.c 5)) (.c 1)), false)], 14, [(.ptr 13 0)], N4_0, 3, .ret (.tup [], N4_1)⟩ := Sy.entM_run (by kernel_rfl) (hk_ok ρ hg) 100000 (fun hp => Sy.gok_more' hg hp) rfl rf4_1
theorem rf4_2 : Sy.runM Tryz.prog hk 100000 ⟨vs, [((.lt (.bin .rem .u32 (.v 0) (.c 5)) (.c 4)), false), ((.lt (.bin .rem .u32 (.v 0) (.c 5)) (.c 3)), false), ((.lt (.bin .rem .u32 (.v 0) (.c 5)) (.c 2)), false), ((.lt (.bin .rem .u32 (.v 0) (.c 5)) (.c 1)), false)], [], 3⟩ 14 [(.ptr 13 0)] N4_1 3 (.tup []) N4_2 = true := by kernel_rfl
theorem f4_2 (ρ : Nat → Int) (hg : Sy.Gok ρ ⟨vs, [], [], 0⟩) : Sy.EntM Tryz.prog 3 ρ ⟨[((.lt (.bin .rem .u32 (.v 0) (.c 5)) (.c 4)), false), ((.lt (.bin .rem .u32 (.v 0) (.c 5)) (.c 3)), false), ((.lt (.bin .rem .u32 (.v 0) (.c 5)) (.c 2)), false), ((.lt (.bin .rem .u32 (.v 0) (.c 5)) (.c 1)), false)], 14, [(.ptr 13 0)], N4_1, 3, .ret (.tup [], N4_2)⟩ := Sy.entM_run (by kernel_rfl) (hk_ok ρ hg) 100000 (fun hp => Sy.gok_more' hg hp) rfl rf4_2
theorem rf4_3 : Sy.runM Tryz.prog hk 100000 ⟨vs, [((.lt (.bin .rem .u32 (.v 0) (.c 5)) (.c 4)), false), ((.lt (.bin .rem .u32 (.v 0) (.c 5)) (.c 3)), false), ((.lt (.bin .rem .u32 (.v 0) (.c 5)) (.c 2)), false), ((.lt (.bin .rem .u32 (.v 0) (.c 5)) (.c 1)), false)], [], 3⟩ 14 [(.ptr 13 0)] N4_2 3 (.tup []) N4_3 = true := by kernel_rfl
theorem f4_3 (ρ : Nat → Int) (hg : Sy.Gok ρ ⟨vs, [], [], 0⟩) : Sy.EntM Tryz.prog 3 ρ ⟨[((.lt (.bin .rem .u32 (.v 0) (.c 5)) (.c 4)), false), ((.lt (.bin .rem .u32 (.v 0) (.c 5)) (.c 3)), false), ((.lt (.bin .rem .u32 (.v 0) (.c 5)) (.c 2)), false), ((.lt (.bin .rem .u32 (.v 0) (.c 5)) (.c 1)), false)], 14, [(.ptr 13 0)], N4_2, 3, .ret (.tup [], N4_3)⟩ := Sy.entM_run (by kernel_rfl) (hk_ok ρ hg) 100000 (fun hp => Sy.gok_more' hg hp) rfl rf4_3
end machDisk
end Go.Proofs.YtnjenhdfeeonoaaGreatDoor
