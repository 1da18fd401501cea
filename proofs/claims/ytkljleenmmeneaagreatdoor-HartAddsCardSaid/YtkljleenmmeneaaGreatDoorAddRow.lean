/- A row of additions: its words, and what they come to. -/
import Derived.Test.YtkljleenmmeneaaGreatDoorSymD
import Derived.Laws.BitsAllLaws
namespace Go.Proofs.YtkljleenmmeneaaGreatDoor
open Go.RowKit

/-- the word that adds a number to a register -/
def wd (imm rd : Int) : Int := imm * 1048576 + rd * 32768 + rd * 128 + 19
/-- a number of 12 bits, with its sign -/
def sx (imm : Int) : Int := if imm < 2048 then imm else imm + 4294963200
theorem wd_range {imm rd : Int} (h1 : 0 ≤ imm ∧ imm < 4096) (h2 : 0 ≤ rd ∧ rd < 32) : 0 ≤ wd imm rd ∧ wd imm rd < 4294967296 := by unfold wd; omega
theorem sx_range {imm : Int} (h1 : 0 ≤ imm ∧ imm < 4096) : 0 ≤ sx imm ∧ sx imm < 4294967296 := by unfold sx; split <;> omega
theorem or_disj (a b i M : Nat) (hM : 2 ^ i = M) (h : b < M) (hs : a * M + b < 4294967296) : bits .or .u32 ((a * M : Nat) : Int) (b : Int) = ((a * M + b : Nat) : Int) := by
  subst hM
  rw [u32_or_nat _ _ (by omega) (by omega), ← Nat.shiftLeft_eq, ← Nat.shiftLeft_add_eq_or_of_lt h]
set_option maxRecDepth 100000 in
theorem wd_or {imm rd : Int} (h1 : 0 ≤ imm ∧ imm < 4096) (h2 : 0 ≤ rd ∧ rd < 32) : bits .or .u32 (bits .or .u32 (bits .or .u32 (imm * 1048576) (rd * 32768)) (rd * 128)) 19 = wd imm rd := by
  obtain ⟨a, rfl⟩ := Int.eq_ofNat_of_zero_le h1.1
  obtain ⟨r, rfl⟩ := Int.eq_ofNat_of_zero_le h2.1
  have ha : a < 4096 := by omega
  have hr : r < 32 := by omega
  have e1 := or_disj a (r * 32768) 20 1048576 rfl (by omega) (by omega)
  have e2 := or_disj (a * 32 + r) (r * 128) 15 32768 rfl (by omega) (by omega)
  have e3 := or_disj (a * 8192 + r * 257) 19 7 128 rfl (by omega) (by omega)
  have f1 : ((a : Int) * 1048576) = ((a * 1048576 : Nat) : Int) := by omega
  have f2 : ((r : Int) * 32768) = ((r * 32768 : Nat) : Int) := by omega
  have f3 : ((r : Int) * 128) = ((r * 128 : Nat) : Int) := by omega
  have g2 : a * 1048576 + r * 32768 = (a * 32 + r) * 32768 := by omega
  have g3 : (a * 32 + r) * 32768 + r * 128 = (a * 8192 + r * 257) * 128 := by omega
  have h19 : (19 : Int) = ((19 : Nat) : Int) := rfl
  rw [f1, f2, f3, e1, g2, e2, g3, h19, e3]
  unfold wd
  omega
end Go.Proofs.YtkljleenmmeneaaGreatDoor
