/- MachineClock: steps. -/
import Derived.Test.YtnjenhdfeeonoaaGreatDoorMachClockM
namespace Go.Proofs.YtnjenhdfeeonoaaGreatDoor
open Go.RowKit Go.ChangeShapes Go.WideShapes Go.ChangeAt
set_option maxHeartbeats 4000000

namespace machClock
open machA
theorem rW : Sy.runM Tryz.prog hk 100000 ⟨[(0, 255), (8, 118)], [((.lt (.v 1) (.c 8)), false), ((.lt (.c 118) (.v 1)), false), ((.lt (.v 1) (.bin .sub .i64 (.bin .add .u32 (.bin .rem .u32 (.v 0) (.c 100)) (.c 20)) (.c 1))), true)], [], 3⟩ 14 [(.ptr 13 0)] MW 3 (.tup []) MX = true := by kernel_rfl
theorem eW (ρ : Nat → Int) (hg : Sy.Gok ρ ⟨vs, [], [], 0⟩) : Sy.EntM Tryz.prog 3 ρ ⟨[((.lt (.v 1) (.c 8)), false), ((.lt (.c 118) (.v 1)), false), ((.lt (.v 1) (.bin .sub .i64 (.bin .add .u32 (.bin .rem .u32 (.v 0) (.c 100)) (.c 20)) (.c 1))), true)], 14, [(.ptr 13 0)], MW, 3, .ret (.tup [], MX)⟩ := Sy.entM_run (by kernel_rfl) (hk_ok ρ hg) 100000 (fun hp => Sy.gok_v1 hg hp (hp _ _ (by simp)) (hp _ _ (by simp))) rfl rW
theorem rL : Sy.runM Tryz.prog hk 100000 ⟨[(0, 255), (8, 118)], [((.lt (.v 1) (.c 8)), false), ((.lt (.c 118) (.v 1)), false), ((.lt (.v 1) (.bin .sub .i64 (.bin .add .u32 (.bin .rem .u32 (.v 0) (.c 100)) (.c 20)) (.c 1))), false), ((.lt (.bin .sub .i64 (.bin .add .u32 (.bin .rem .u32 (.v 0) (.c 100)) (.c 20)) (.c 1)) (.v 1)), false)], [], 3⟩ 14 [(.ptr 13 0)] MW 3 (.tup []) ML = true := by kernel_rfl
theorem eL (ρ : Nat → Int) (hg : Sy.Gok ρ ⟨vs, [], [], 0⟩) : Sy.EntM Tryz.prog 3 ρ ⟨[((.lt (.v 1) (.c 8)), false), ((.lt (.c 118) (.v 1)), false), ((.lt (.v 1) (.bin .sub .i64 (.bin .add .u32 (.bin .rem .u32 (.v 0) (.c 100)) (.c 20)) (.c 1))), false), ((.lt (.bin .sub .i64 (.bin .add .u32 (.bin .rem .u32 (.v 0) (.c 100)) (.c 20)) (.c 1)) (.v 1)), false)], 14, [(.ptr 13 0)], MW, 3, .ret (.tup [], ML)⟩ := Sy.entM_run (by kernel_rfl) (hk_ok ρ hg) 100000 (fun hp => Sy.gok_v1 hg hp (hp _ _ (by simp)) (hp _ _ (by simp))) rfl rL
end machClock
end Go.Proofs.YtnjenhdfeeonoaaGreatDoor
