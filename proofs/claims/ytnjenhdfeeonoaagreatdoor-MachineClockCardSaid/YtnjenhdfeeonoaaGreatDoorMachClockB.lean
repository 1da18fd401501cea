/- MachineClock: steps. -/
import Derived.Test.YtnjenhdfeeonoaaGreatDoorMachClockM
namespace Go.Proofs.YtnjenhdfeeonoaaGreatDoor
open Go.RowKit Go.ChangeShapes Go.WideShapes Go.ChangeAt
set_option maxHeartbeats 4000000

namespace machClock
open machA
theorem r4 : Sy.runM Tryz.prog hk 100000 ⟨vs, [], [], 3⟩ 14 [(.ptr 13 0)] M4 3 (.tup []) M5 = true := by kernel_rfl
theorem e4 (ρ : Nat → Int) (hg : Sy.Gok ρ ⟨vs, [], [], 0⟩) : Sy.EntM Tryz.prog 3 ρ ⟨[], 14, [(.ptr 13 0)], M4, 3, .ret (.tup [], M5)⟩ := Sy.entM_run (by kernel_rfl) (hk_ok ρ hg) 100000 (fun hp => Sy.gok_more' hg hp) rfl r4
theorem r5 : Sy.runM Tryz.prog hk 100000 ⟨vs, [], [], 3⟩ 14 [(.ptr 13 0)] M5 3 (.tup []) M6 = true := by kernel_rfl
theorem e5 (ρ : Nat → Int) (hg : Sy.Gok ρ ⟨vs, [], [], 0⟩) : Sy.EntM Tryz.prog 3 ρ ⟨[], 14, [(.ptr 13 0)], M5, 3, .ret (.tup [], M6)⟩ := Sy.entM_run (by kernel_rfl) (hk_ok ρ hg) 100000 (fun hp => Sy.gok_more' hg hp) rfl r5
theorem r6 : Sy.runM Tryz.prog hk 100000 ⟨vs, [], [], 3⟩ 14 [(.ptr 13 0)] M6 3 (.tup []) M7 = true := by kernel_rfl
theorem e6 (ρ : Nat → Int) (hg : Sy.Gok ρ ⟨vs, [], [], 0⟩) : Sy.EntM Tryz.prog 3 ρ ⟨[], 14, [(.ptr 13 0)], M6, 3, .ret (.tup [], M7)⟩ := Sy.entM_run (by kernel_rfl) (hk_ok ρ hg) 100000 (fun hp => Sy.gok_more' hg hp) rfl r6
theorem r7 : Sy.runM Tryz.prog hk 100000 ⟨vs, [], [], 3⟩ 14 [(.ptr 13 0)] M7 3 (.tup []) M8 = true := by kernel_rfl
theorem e7 (ρ : Nat → Int) (hg : Sy.Gok ρ ⟨vs, [], [], 0⟩) : Sy.EntM Tryz.prog 3 ρ ⟨[], 14, [(.ptr 13 0)], M7, 3, .ret (.tup [], M8)⟩ := Sy.entM_run (by kernel_rfl) (hk_ok ρ hg) 100000 (fun hp => Sy.gok_more' hg hp) rfl r7
end machClock
end Go.Proofs.YtnjenhdfeeonoaaGreatDoor
