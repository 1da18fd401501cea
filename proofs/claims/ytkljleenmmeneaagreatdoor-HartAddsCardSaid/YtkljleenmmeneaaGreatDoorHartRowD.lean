/- Seat 19: a step of a hart at an adding word of registers 25 to 31: the runs. -/
import Derived.Test.YtkljleenmmeneaaGreatDoorHartRow
namespace Go.Proofs.YtkljleenmmeneaaGreatDoor
open Go.RowKit
set_option maxHeartbeats 4000000

namespace hartRow
theorem run25 : Run 25 := by
  unfold Run
  kernel_rfl
theorem run26 : Run 26 := by
  unfold Run
  kernel_rfl
theorem run27 : Run 27 := by
  unfold Run
  kernel_rfl
theorem run28 : Run 28 := by
  unfold Run
  kernel_rfl
theorem run29 : Run 29 := by
  unfold Run
  kernel_rfl
theorem run30 : Run 30 := by
  unfold Run
  kernel_rfl
theorem run31 : Run 31 := by
  unfold Run
  kernel_rfl
end hartRow
end Go.Proofs.YtkljleenmmeneaaGreatDoor
