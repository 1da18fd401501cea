/- Walks of the reference of package bits: powers of two, one bit of a word, a word with another bit. -/
import Derived.Test.YtfgipnohomdcoaaChecked
import Derived.Test.YtfgipnohomdcoaaBase
namespace Go.Proofs.Ytfgipnohomdcoaa
open Go.RowKit
set_option maxHeartbeats 1000000

def pw (n : Nat) : Int := ((2 ^ n : Nat) : Int)
theorem pw_succ (n : Nat) : pw (n + 1) = pw n * 2 := by simp [pw, Nat.pow_succ]
theorem pw_pos (n : Nat) : 1 ≤ pw n := by have : 0 < 2 ^ n := Nat.pow_pos (by omega); unfold pw; omega
theorem pw_le (n : Nat) (h : n ≤ 31) : pw n ≤ 2147483648 := by
  have : 2 ^ n ≤ 2 ^ 31 := Nat.pow_le_pow_right (by omega) h
  simp only [Nat.reducePow] at this
  unfold pw; omega

theorem power_any (n : Nat) (hn : n ≤ 31) (w : World) : Calls Try.prog 35 #[.int .i64 n] w fun e w' => e = .returned (.int .u32 (pw n)) ∧ w = w' := by
  go_enter Try.func35, Try.ntmps35
  go_wp2
  go_loop [3, 4] (fun p i => ∃ k : Nat, k ≤ n ∧ i = .int .i64 k ∧ p = .int .u32 (pw k)) (fun _ i => n - (intOf i).toNat)
  case atStart => exact ⟨0, Nat.zero_le _, rfl, rfl⟩
  case round =>
    obtain ⟨k, hk, rfl, rfl⟩ := hrel
    by_cases hlt : k < n
    · have h1 := pw_pos k
      have h2 := pw_le (k + 1) (by omega)
      have Hs := Lib.hid (pw_succ k)
      rw [Hs.out] at h2
      generalize pw k = P at *
      go_wp2
      go_round
      case rel => exact ⟨k + 1, by omega, by go_num, by rw [Hs.out]⟩
      case measure => simp only [intOf]; omega
    · obtain rfl : k = n := by omega
      clear hlt hk
      go_wp2
      go_ret
      exact ⟨rfl, rfl⟩

def bitAt (x : Int) (i : Nat) : Int := x / pw i % 2
theorem bitAt_01 (x : Int) (i : Nat) : 0 ≤ bitAt x i ∧ bitAt x i ≤ 1 := by unfold bitAt; omega

theorem bit_any (x : Int) (i : Nat) (h1 : 0 ≤ x) (h2 : x < 4294967296) (hi : i ≤ 31) (w : World) : Calls Try.prog 34 #[.int .u32 x, .int .i64 i] w fun e w' => e = .returned (.int .u32 (bitAt x i)) ∧ w = w' := by
  have hp := Lib.hid (power_any i hi w)
  have hb : Hid (bitAt x i = x / pw i % 2) := rfl
  have p1 := pw_pos i
  have p2 := pw_le i hi
  have hq0 : 0 ≤ x / pw i := Int.ediv_nonneg h1 (by omega)
  generalize pw i = P at *
  go_enter Try.func34, Try.ntmps34
  go_wp2_with fail
  refine hp.out.mono ?_
  rintro e w' ⟨rfl, rfl⟩
  go_wp2_with fail
  go_ret
  exact ⟨ret_int (by rw [hb.out]), rfl⟩

def setBit (x : Int) (i : Nat) (b : Int) : Int := x - bitAt x i * pw i + b * pw i
theorem setBit_range (x : Int) (i : Nat) (b : Int) (h1 : 0 ≤ x) (h2 : x < 4294967296) (hi : i ≤ 31) (hb : b = 0 ∨ b = 1) : 0 ≤ x - bitAt x i * pw i ∧ bitAt x i * pw i ≤ 2147483648 ∧ 0 ≤ bitAt x i * pw i ∧ setBit x i b < 4294967296 ∧ 0 ≤ setBit x i b := by
  have p1 := pw_pos i
  have p2 := pw_le i hi
  have hdiv : x = pw i * (x / pw i) + x % pw i := (Int.mul_ediv_add_emod x (pw i)).symm
  have hm0 := Int.emod_nonneg x (show pw i ≠ 0 by omega)
  have hq0 : 0 ≤ x / pw i := Int.ediv_nonneg h1 (by omega)
  -- the power divides 2^32
  obtain ⟨m, hm⟩ : ∃ m : Nat, (4294967296 : Int) = pw i * (2 * m) := by
    refine ⟨2 ^ (31 - i), ?_⟩
    unfold pw
    have : (2 : Nat) ^ i * (2 * 2 ^ (31 - i)) = 4294967296 := by
      rw [← Nat.mul_assoc, Nat.mul_comm (2 ^ i) 2, Nat.mul_assoc, ← Nat.pow_add, show i + (31 - i) = 31 by omega]
    have h := congrArg (fun n : Nat => (n : Int)) this
    simp only [Int.natCast_mul] at h
    exact h.symm
  have hml := Int.emod_lt_of_pos x (show 0 < pw i by omega)
  have hbit : bitAt x i = x / pw i % 2 := rfl
  unfold setBit
  rw [hbit]
  generalize x / pw i = q at *
  generalize pw i = P at *
  generalize x % P = r at *
  clear hbit
  have h01 : q % 2 = 0 ∨ q % 2 = 1 := by omega
  have hq1 : P * q ≤ x := by omega
  have hq2 : x < P * q + P := by omega
  rcases h01 with ht | ht
  · rw [ht]
    simp only [Int.zero_mul, Int.sub_zero]
    rcases hb with rfl | rfl
    · simp only [Int.zero_mul, Int.add_zero]; omega
    · simp only [Int.one_mul]
      obtain ⟨k, rfl⟩ : ∃ k, q = 2 * k := ⟨q / 2, by omega⟩
      have h3 : P * (2 * k) < P * (2 * m) := by omega
      have h4 : 2 * k < 2 * (m : Int) := Int.lt_of_mul_lt_mul_left h3 (by omega)
      have h5 : P * (2 * k + 2) ≤ P * (2 * m) := Int.mul_le_mul_of_nonneg_left (by omega) (by omega)
      have h6 : P * (2 * k + 2) = P * (2 * k) + 2 * P := by rw [Int.mul_add]; omega
      omega
  · rw [ht]
    simp only [Int.one_mul]
    have h7 : P * 1 ≤ P * q := Int.mul_le_mul_of_nonneg_left (by omega) (by omega)
    rcases hb with rfl | rfl
    · simp only [Int.zero_mul, Int.add_zero]; omega
    · simp only [Int.one_mul]; omega

theorem set_any (x : Int) (i : Nat) (b : Int) (h1 : 0 ≤ x) (h2 : x < 4294967296) (hi : i ≤ 31) (hb : b = 0 ∨ b = 1) (w : World) : Calls Try.prog 33 #[.int .u32 x, .int .i64 i, .int .u32 b] w fun e w' => e = .returned (.int .u32 (setBit x i b)) ∧ w = w' := by
  have hp := Lib.hid (power_any i hi)
  have hbt := Lib.hid (bit_any x i h1 h2 hi)
  have hr := setBit_range x i b h1 h2 hi hb
  have hs : Hid (setBit x i b = x - bitAt x i * pw i + b * pw i) := rfl
  obtain ⟨t1, t2⟩ := bitAt_01 x i
  have p1 := pw_pos i
  have p2 := pw_le i hi
  obtain ⟨r1, r2, r3, r4, r5⟩ := hr
  have hbp : 0 ≤ b * pw i ∧ b * pw i ≤ 2147483648 := by rcases hb with rfl | rfl <;> omega
  rw [hs.out] at r4 r5
  obtain ⟨hb1, hb2⟩ := hbp
  generalize bitAt x i = t at *
  generalize pw i = P at *
  have hb0 : 0 ≤ b ∧ b ≤ 1 := by rcases hb with rfl | rfl <;> omega
  obtain ⟨hb3, hb4⟩ := hb0
  have e1 : IntKind.u32.wrap (t * P) = t * P := by rw [IntKind.wrap_u32]; omega
  have e2 : IntKind.u32.wrap (b * P) = b * P := by rw [IntKind.wrap_u32]; omega
  have e3 : IntKind.u32.wrap (x - t * P) = x - t * P := by rw [IntKind.wrap_u32]; omega
  have e4 : IntKind.u32.wrap (x - t * P + b * P) = x - t * P + b * P := by rw [IntKind.wrap_u32]; omega
  clear hb
  go_enter Try.func33, Try.ntmps33
  go_wp2_with (first | (go_at_call 35; refine (hp.out _).mono ?_; rintro e w' ⟨rfl, rfl⟩) | (go_at_call 34; refine (hbt.out _).mono ?_; rintro e w' ⟨rfl, rfl⟩))
  go_ret
  refine ⟨ret_int ?_, rfl⟩
  rw [hs.out]
end Go.Proofs.Ytfgipnohomdcoaa
