/- MachineClock: steps. -/
import Derived.Test.YtnjenhdfeeonoaaGreatDoorMachClockM
namespace Go.Proofs.YtnjenhdfeeonoaaGreatDoor
open Go.RowKit Go.ChangeShapes Go.WideShapes Go.ChangeAt
set_option maxHeartbeats 4000000

namespace machClock
open machA
theorem r0 : Sy.runM Tryz.prog hk 100000 ⟨vs, [], [], 3⟩ 14 [(.ptr 13 0)] M0 3 (.tup []) M1 = true := by kernel_rfl
theorem e0 (ρ : Nat → Int) (hg : Sy.Gok ρ ⟨vs, [], [], 0⟩) : Sy.EntM Tryz.prog 3 ρ ⟨[], 14, [(.ptr 13 0)], M0, 3, .ret (.tup [], M1)⟩ := Sy.entM_run (by kernel_rfl) (hk_ok ρ hg) 100000 (fun hp => Sy.gok_more' hg hp) rfl r0
theorem r1 : Sy.runM Tryz.prog hk 100000 ⟨vs, [], [], 3⟩ 14 [(.ptr 13 0)] M1 3 (.tup []) M2 = true := by kernel_rfl
theorem e1 (ρ : Nat → Int) (hg : Sy.Gok ρ ⟨vs, [], [], 0⟩) : Sy.EntM Tryz.prog 3 ρ ⟨[], 14, [(.ptr 13 0)], M1, 3, .ret (.tup [], M2)⟩ := Sy.entM_run (by kernel_rfl) (hk_ok ρ hg) 100000 (fun hp => Sy.gok_more' hg hp) rfl r1
theorem r2 : Sy.runM Tryz.prog hk 100000 ⟨vs, [], [], 3⟩ 14 [(.ptr 13 0)] M2 3 (.tup []) M3 = true := by kernel_rfl
theorem e2 (ρ : Nat → Int) (hg : Sy.Gok ρ ⟨vs, [], [], 0⟩) : Sy.EntM Tryz.prog 3 ρ ⟨[], 14, [(.ptr 13 0)], M2, 3, .ret (.tup [], M3)⟩ := Sy.entM_run (by kernel_rfl) (hk_ok ρ hg) 100000 (fun hp => Sy.gok_more' hg hp) rfl r2
theorem r3 : Sy.runM Tryz.prog hk 100000 ⟨vs, [], [], 3⟩ 14 [(.ptr 13 0)] M3 3 (.tup []) M4 = true := by kernel_rfl
theorem e3 (ρ : Nat → Int) (hg : Sy.Gok ρ ⟨vs, [], [], 0⟩) : Sy.EntM Tryz.prog 3 ρ ⟨[], 14, [(.ptr 13 0)], M3, 3, .ret (.tup [], M4)⟩ := Sy.entM_run (by kernel_rfl) (hk_ok ρ hg) 100000 (fun hp => Sy.gok_more' hg hp) rfl r3
end machClock
end Go.Proofs.YtnjenhdfeeonoaaGreatDoor
