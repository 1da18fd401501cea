/- A field of a word is put: by masks as by numbers. -/
import Derived.Test.YtfgipnohomdcoaaBit3
namespace Go.Proofs.Ytfgipnohomdcoaa
open Go.RowKit
set_option maxHeartbeats 4000000

theorem nat_clear (x a m : Nat) (hx : x < 2 ^ 32) (h : a + m ≤ 32) : x &&& (2 ^ 32 - 1 - (2 ^ m - 1) * 2 ^ a) = 2 ^ (a + m) * (x / 2 ^ (a + m)) + x % 2 ^ a := by
  have hM : (2 ^ m - 1) * 2 ^ a < 2 ^ 32 := by
    have h1 : 0 < 2 ^ m := Nat.pow_pos (by omega)
    have h2 : 2 ^ m * 2 ^ a ≤ 2 ^ 32 := by rw [← Nat.pow_add]; exact Nat.pow_le_pow_right (by omega) (by omega)
    have h3 : 0 < 2 ^ a := Nat.pow_pos (by omega)
    rw [Nat.sub_mul, Nat.one_mul]
    omega
  have hr : x % 2 ^ a < 2 ^ (a + m) := Nat.lt_of_lt_of_le (Nat.mod_lt _ (Nat.pow_pos (by omega))) (Nat.pow_le_pow_right (by omega) (by omega))
  apply Nat.eq_of_testBit_eq
  intro j
  rw [Nat.testBit_and, show 2 ^ 32 - 1 - (2 ^ m - 1) * 2 ^ a = 2 ^ 32 - ((2 ^ m - 1) * 2 ^ a + 1) by omega, Nat.testBit_two_pow_sub_succ hM, Nat.testBit_two_pow_mul_add _ hr, Nat.testBit_mul_two_pow, Nat.testBit_two_pow_sub_one, Nat.testBit_mod_two_pow, Nat.testBit_div_two_pow]
  by_cases hj : j < 32
  · by_cases h1 : j < a
    · have h2 : ¬ a ≤ j := by omega
      have h3 : j < a + m := by omega
      simp [hj, h1, h2, h3]
    · by_cases h2 : j < a + m
      · have h3 : a ≤ j := by omega
        have h4 : j - a < m := by omega
        simp [hj, h1, h2, h3, h4]
      · have h4 : ¬ (j - a < m) := by omega
        have h5 : j - (a + m) + (a + m) = j := by omega
        simp [hj, h2, h4, h5]
  · have hb : x.testBit j = false := Nat.testBit_lt_two_pow (Nat.lt_of_lt_of_le hx (Nat.pow_le_pow_right (by omega) (by omega)))
    have h2 : ¬ j < a + m := by omega
    have h5 : j - (a + m) + (a + m) = j := by omega
    simp [hb, h2, h5]
theorem nat_put (x a m v : Nat) (hx : x < 2 ^ 32) (h : a + m ≤ 32) : (x &&& (2 ^ 32 - 1 - (2 ^ m - 1) * 2 ^ a)) ||| (v % 2 ^ m * 2 ^ a) = 2 ^ (a + m) * (x / 2 ^ (a + m)) + (v % 2 ^ m * 2 ^ a + x % 2 ^ a) := by
  have hr : x % 2 ^ a < 2 ^ a := Nat.mod_lt _ (Nat.pow_pos (by omega))
  have hr2 : x % 2 ^ a < 2 ^ (a + m) := Nat.lt_of_lt_of_le hr (Nat.pow_le_pow_right (by omega) (by omega))
  have hv : v % 2 ^ m < 2 ^ m := Nat.mod_lt _ (Nat.pow_pos (by omega))
  have hs : v % 2 ^ m * 2 ^ a + x % 2 ^ a < 2 ^ (a + m) := by
    have : (v % 2 ^ m + 1) * 2 ^ a ≤ 2 ^ m * 2 ^ a := Nat.mul_le_mul_right _ (by omega)
    rw [Nat.add_mul, Nat.one_mul] at this
    rw [Nat.pow_add, Nat.mul_comm (2 ^ a)]
    omega
  rw [nat_clear x a m hx h]
  rw [← nat_join (a + m) _ _ (by simp) hr2, Nat.or_assoc, Nat.or_comm (x % 2 ^ a), nat_join a _ _ (by simp) hr, nat_join (a + m) _ _ (by simp) hs]
theorem put_bits (x v : Int) (a m : Nat) (hx : 0 ≤ x ∧ x < 4294967296) (hv : 0 ≤ v ∧ v < 4294967296) (h : a + m ≤ 32) (hm : 1 ≤ m) : bits .or .u32 (bits .andNot .u32 x ((pw m - 1) * pw a)) (v % pw m * pw a) = ptF x a m v := by
  obtain ⟨X, rfl⟩ := Int.eq_ofNat_of_zero_le hx.1
  obtain ⟨V, rfl⟩ := Int.eq_ofNat_of_zero_le hv.1
  have h1 : 0 < 2 ^ m := Nat.pow_pos (by omega)
  have h3 : 0 < 2 ^ a := Nat.pow_pos (by omega)
  have h2 : 2 ^ m * 2 ^ a ≤ 2 ^ 32 := by rw [← Nat.pow_add]; exact Nat.pow_le_pow_right (by omega) (by omega)
  simp only [Nat.reducePow] at h2
  have hM : (2 ^ m - 1) * 2 ^ a < 4294967296 := by rw [Nat.sub_mul, Nat.one_mul]; omega
  have hN : V % 2 ^ m * 2 ^ a < 4294967296 := by
    have hvm : V % 2 ^ m < 2 ^ m := Nat.mod_lt _ h1
    have : (V % 2 ^ m + 1) * 2 ^ a ≤ 2 ^ m * 2 ^ a := Nat.mul_le_mul_right _ (by omega)
    rw [Nat.add_mul, Nat.one_mul] at this
    omega
  have e1 : (pw m - 1) * pw a = (((2 ^ m - 1) * 2 ^ a : Nat) : Int) := by
    unfold pw
    rw [Int.natCast_mul, Int.natCast_sub (by omega)]; rfl
  have e2 : (V : Int) % pw m * pw a = ((V % 2 ^ m * 2 ^ a : Nat) : Int) := by unfold pw; rw [Int.natCast_mul, Int.natCast_emod]
  rw [e1, e2, u32_andNot _ _ (by omega) (by omega) (by omega) (by omega), Int.toNat_natCast, Int.toNat_natCast]
  have hle : X &&& (4294967295 - (2 ^ m - 1) * 2 ^ a) ≤ X := Nat.and_le_left
  rw [u32_or _ _ (by omega) (by omega) (by omega) (by omega), Int.toNat_natCast, Int.toNat_natCast]
  have := nat_put X a m V (by simp only [Nat.reducePow]; omega) h
  simp only [show (2 ^ 32 - 1 : Nat) = 4294967295 from rfl] at this
  rw [this]
  -- the number
  have hx1 := Nat.div_add_mod X (2 ^ a)
  have hx2 := Nat.div_add_mod (X / 2 ^ a) (2 ^ m)
  have hdd : X / 2 ^ (a + m) = X / 2 ^ a / 2 ^ m := by rw [Nat.pow_add, Nat.div_div_eq_div_mul]
  have e3 : fld (X : Int) a m * pw a = ((X / 2 ^ a % 2 ^ m * 2 ^ a : Nat) : Int) := by unfold fld pw; rw [Int.natCast_mul, Int.natCast_emod, Int.natCast_ediv]
  have e4 : 2 ^ (a + m) * (X / 2 ^ (a + m)) + X % 2 ^ a + X / 2 ^ a % 2 ^ m * 2 ^ a = X := by
    rw [hdd, Nat.pow_add]
    have : 2 ^ a * (2 ^ m * (X / 2 ^ a / 2 ^ m) + X / 2 ^ a % 2 ^ m) = 2 ^ a * (X / 2 ^ a) := by rw [hx2]
    rw [Nat.mul_add, ← Nat.mul_assoc, Nat.mul_comm (2 ^ a) (X / 2 ^ a % 2 ^ m)] at this
    omega
  unfold ptF
  rw [e3, e2]
  omega
end Go.Proofs.Ytfgipnohomdcoaa
