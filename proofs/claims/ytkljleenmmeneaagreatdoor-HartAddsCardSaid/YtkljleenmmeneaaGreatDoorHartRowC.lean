/- Seat 19: a step of a hart at an adding word of registers 17 to 24: the runs. -/
import Derived.Test.YtkljleenmmeneaaGreatDoorHartRow
namespace Go.Proofs.YtkljleenmmeneaaGreatDoor
open Go.RowKit
set_option maxHeartbeats 4000000

namespace hartRow
theorem run17 : Run 17 := by
  unfold Run
  kernel_rfl
theorem run18 : Run 18 := by
  unfold Run
  kernel_rfl
theorem run19 : Run 19 := by
  unfold Run
  kernel_rfl
theorem run20 : Run 20 := by
  unfold Run
  kernel_rfl
theorem run21 : Run 21 := by
  unfold Run
  kernel_rfl
theorem run22 : Run 22 := by
  unfold Run
  kernel_rfl
theorem run23 : Run 23 := by
  unfold Run
  kernel_rfl
theorem run24 : Run 24 := by
  unfold Run
  kernel_rfl
end hartRow
end Go.Proofs.YtkljleenmmeneaaGreatDoor
