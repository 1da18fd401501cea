/- Seat 19: a step of a hart at an adding word of registers 9 to 16: the runs. -/
import Derived.Test.YtkljleenmmeneaaGreatDoorHartRow
namespace Go.Proofs.YtkljleenmmeneaaGreatDoor
open Go.RowKit
set_option maxHeartbeats 4000000

namespace hartRow
theorem run9 : Run 9 := by
  unfold Run
  kernel_rfl
theorem run10 : Run 10 := by
  unfold Run
  kernel_rfl
theorem run11 : Run 11 := by
  unfold Run
  kernel_rfl
theorem run12 : Run 12 := by
  unfold Run
  kernel_rfl
theorem run13 : Run 13 := by
  unfold Run
  kernel_rfl
theorem run14 : Run 14 := by
  unfold Run
  kernel_rfl
theorem run15 : Run 15 := by
  unfold Run
  kernel_rfl
theorem run16 : Run 16 := by
  unfold Run
  kernel_rfl
end hartRow
end Go.Proofs.YtkljleenmmeneaaGreatDoor
