/- Seat 19: a step of a hart at an adding word of registers 1 to 8: the runs. -/
import Derived.Test.YtkljleenmmeneaaGreatDoorHartRow
namespace Go.Proofs.YtkljleenmmeneaaGreatDoor
open Go.RowKit
set_option maxHeartbeats 4000000

namespace hartRow
theorem run1 : Run 1 := by
  unfold Run
  kernel_rfl
theorem run2 : Run 2 := by
  unfold Run
  kernel_rfl
theorem run3 : Run 3 := by
  unfold Run
  kernel_rfl
theorem run4 : Run 4 := by
  unfold Run
  kernel_rfl
theorem run5 : Run 5 := by
  unfold Run
  kernel_rfl
theorem run6 : Run 6 := by
  unfold Run
  kernel_rfl
theorem run7 : Run 7 := by
  unfold Run
  kernel_rfl
theorem run8 : Run 8 := by
  unfold Run
  kernel_rfl
end hartRow
end Go.Proofs.YtkljleenmmeneaaGreatDoor
