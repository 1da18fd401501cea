/- Fields of words: the reference's, bit by bit, and the program's, by shifts and masks. -/
import Derived.Test.YtfgipnohomdcoaaBit1
import Derived.Laws.BitsAllLaws
namespace Go.Proofs.Ytfgipnohomdcoaa
open Go.RowKit
set_option maxHeartbeats 4000000

/-- m bits of x from the a-th on -/
def fld (x : Int) (a m : Nat) : Int := x / pw a % pw m
/-- x with other m bits from the a-th on -/
def ptF (x : Int) (a m : Nat) (v : Int) : Int := x - fld x a m * pw a + v % pw m * pw a

theorem pw_add (a b : Nat) : pw (a + b) = pw a * pw b := by unfold pw; rw [Nat.pow_add]; simp
theorem mod_pw_succ (y : Int) (i : Nat) : y % pw (i + 1) = y % pw i + y / pw i % 2 * pw i := by
  have hp := pw_pos i
  rw [pw_succ]
  have h1 := Int.mul_ediv_add_emod y (pw i)
  have h2 := Int.mul_ediv_add_emod (y / pw i) 2
  have e : y = pw i * 2 * (y / pw i / 2) + (y % pw i + y / pw i % 2 * pw i) := by
    have : pw i * (y / pw i) = pw i * (2 * (y / pw i / 2) + y / pw i % 2) := by rw [h2]
    rw [Int.mul_add] at this
    have h3 : pw i * (y / pw i % 2) = y / pw i % 2 * pw i := Int.mul_comm _ _
    have h4 : pw i * (2 * (y / pw i / 2)) = pw i * 2 * (y / pw i / 2) := by rw [Int.mul_assoc]
    omega
  have hm := Int.emod_nonneg y (show pw i ≠ 0 by omega)
  have hl := Int.emod_lt_of_pos y (show 0 < pw i by omega)
  have hb : y / pw i % 2 = 0 ∨ y / pw i % 2 = 1 := by omega
  have hr : 0 ≤ y % pw i + y / pw i % 2 * pw i ∧ y % pw i + y / pw i % 2 * pw i < pw i * 2 := by rcases hb with h | h <;> rw [h] <;> omega
  conv => lhs; rw [e]
  rw [Int.mul_add_emod_self_left]
  exact Int.emod_eq_of_lt hr.1 hr.2
theorem div_div_pw (x : Int) (a i : Nat) : x / pw a / pw i = x / pw (a + i) := by
  rw [pw_add, ← Int.ediv_ediv_of_nonneg]
  have := pw_pos a; omega
theorem fld_zero (x : Int) (a : Nat) : fld x a 0 = 0 := by unfold fld; simp [pw]
theorem fld_lt (x : Int) (a m : Nat) : 0 ≤ fld x a m ∧ fld x a m < pw m := by
  have := pw_pos m
  exact ⟨Int.emod_nonneg _ (by omega), Int.emod_lt_of_pos _ (by omega)⟩
theorem fld_succ (x : Int) (a i : Nat) : fld x a (i + 1) = setBit (fld x a i) i (bitAt x (a + i)) := by
  obtain ⟨h1, h2⟩ := fld_lt x a i
  have h0 : bitAt (fld x a i) i = 0 := by unfold bitAt; rw [Int.ediv_eq_zero_of_lt h1 h2]; rfl
  unfold setBit
  rw [h0]
  unfold fld bitAt
  rw [mod_pw_succ, div_div_pw]
  omega
theorem ptF_zero (x : Int) (a : Nat) (v : Int) : ptF x a 0 v = x := by unfold ptF; rw [fld_zero]; simp [pw]
/-- a bit of a word whose bits below are others -/
theorem bit_ptF (x : Int) (a i : Nat) (v : Int) (hx : 0 ≤ x) : bitAt (ptF x a i v) (a + i) = bitAt x (a + i) := by
  have ha := pw_pos a
  have hi := pw_pos i
  -- x = A * 2^(a+i) + f * 2^a + r
  have hx1 := Int.mul_ediv_add_emod x (pw a)
  have hx2 := Int.mul_ediv_add_emod (x / pw a) (pw i)
  have hr0 := Int.emod_nonneg x (show pw a ≠ 0 by omega)
  have hr1 := Int.emod_lt_of_pos x (show 0 < pw a by omega)
  have hv0 := Int.emod_nonneg v (show pw i ≠ 0 by omega)
  have hv1 := Int.emod_lt_of_pos v (show 0 < pw i by omega)
  have e : ptF x a i v = pw (a + i) * (x / pw a / pw i) + (v % pw i * pw a + x % pw a) := by
    unfold ptF fld
    rw [pw_add]
    have : pw a * (x / pw a) = pw a * (pw i * (x / pw a / pw i)) + pw a * (x / pw a % pw i) := by rw [← Int.mul_add, hx2]
    have h3 : pw a * (x / pw a % pw i) = x / pw a % pw i * pw a := Int.mul_comm _ _
    have h4 : pw a * (pw i * (x / pw a / pw i)) = pw a * pw i * (x / pw a / pw i) := by rw [Int.mul_assoc]
    omega
  have hb : 0 ≤ v % pw i * pw a + x % pw a := Int.add_nonneg (Int.mul_nonneg hv0 (by omega)) hr0
  have hl : v % pw i * pw a + x % pw a < pw (a + i) := by
    rw [pw_add, Int.mul_comm (pw a)]
    have : v % pw i * pw a ≤ (pw i - 1) * pw a := Int.mul_le_mul_of_nonneg_right (by omega) (by omega)
    rw [Int.sub_mul] at this
    omega
  have hp := pw_pos (a + i)
  unfold bitAt
  rw [e, Int.mul_add_ediv_left _ _ (by omega), Int.ediv_eq_zero_of_lt hb hl, Int.add_zero, div_div_pw]
theorem ptF_succ (x : Int) (a i : Nat) (v : Int) (hx : 0 ≤ x) : ptF x a (i + 1) v = setBit (ptF x a i v) (a + i) (bitAt v i) := by
  unfold setBit
  rw [bit_ptF x a i v hx]
  have h1 : fld x a (i + 1) = fld x a i + bitAt x (a + i) * pw i := by unfold fld bitAt; rw [mod_pw_succ, div_div_pw]
  have h2 : v % pw (i + 1) = v % pw i + bitAt v i * pw i := by unfold bitAt; rw [mod_pw_succ]
  unfold ptF
  rw [h1, h2, pw_add, Int.add_mul, Int.add_mul]
  have e1 : bitAt x (a + i) * (pw a * pw i) = bitAt x (a + i) * pw i * pw a := by rw [Int.mul_comm (pw a), Int.mul_assoc]
  have e2 : bitAt v i * (pw a * pw i) = bitAt v i * pw i * pw a := by rw [Int.mul_comm (pw a), Int.mul_assoc]
  omega
end Go.Proofs.Ytfgipnohomdcoaa
