/- Walks of the reference of package page: counts of heads, and what words are. -/
import Derived.Test.YtihlbfbplmehiaaPageE
import Derived.Deep.RegionHeld3
namespace Go.Proofs.Ytihlbfbplmehiaa
open Go.RowKit
set_option maxHeartbeats 1000000

theorem count_eq {x0 x1 x2 x3 : Int} : count [x0, x1, x2, x3] = if free [x0, x1, x2, x3] then (0, 0) else if header x1 = [x0, x1, x2, x3] then (x1, 1) else (0, 2) := by
  simp only [count, kind]
  by_cases hf : free [x0, x1, x2, x3] = true
  · simp [hf]
  · by_cases he : header x1 = [x0, x1, x2, x3]
    · simp [hf, he]
    · have he' : ¬ [x0, x1, x2, x3] = header x1 := fun e => he e.symm
      simp [hf, he, he']

theorem rd_eq {x0 x1 x2 x3 x4 x5 x6 : Int} : rd [x0, x1, x2, x3, x4, x5, x6] = if free [x0, x1, x2, x3, x4, x5, x6] then (Pg.zero, 0) else if (cand [x0, x1, x2, x3, x4, x5, x6]).words = [x0, x1, x2, x3, x4, x5, x6] then (cand [x0, x1, x2, x3, x4, x5, x6], 1) else (Pg.zero, 2) := by
  simp only [rd, kind]
  by_cases hf : free [x0, x1, x2, x3, x4, x5, x6] = true
  · simp [hf]
  · by_cases he : (cand [x0, x1, x2, x3, x4, x5, x6]).words = [x0, x1, x2, x3, x4, x5, x6]
    · simp [hf, he]
    · have he' : ¬ [x0, x1, x2, x3, x4, x5, x6] = (cand [x0, x1, x2, x3, x4, x5, x6]).words := fun e => he e.symm
      simp [hf, he, he']

end Go.Proofs.Ytihlbfbplmehiaa
