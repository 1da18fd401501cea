/- Walks of the reference's Field and Put, and of the program's, where a field is a byte, a half or a word. -/
import Derived.Test.YtfgipnohomdcoaaBit2
namespace Go.Proofs.Ytfgipnohomdcoaa
open Go.RowKit
set_option maxHeartbeats 4000000

theorem pw_lt {m : Nat} (h : m ≤ 32) : pw m ≤ 4294967296 := by
  have : 2 ^ m ≤ 2 ^ 32 := Nat.pow_le_pow_right (by omega) h
  simp only [Nat.reducePow] at this
  unfold pw; omega
theorem fld_u32 (x : Int) (a : Nat) {m : Nat} (h : m ≤ 32) : 0 ≤ fld x a m ∧ fld x a m < 4294967296 := by
  have h1 := fld_lt x a m
  have h2 := pw_lt h
  omega
theorem ptF_u32 {x : Int} {a : Nat} (v : Int) (hx : 0 ≤ x ∧ x < 4294967296) : ∀ m, a + m ≤ 32 → 0 ≤ ptF x a m v ∧ ptF x a m v < 4294967296
  | 0, _ => by rw [ptF_zero]; exact hx
  | m + 1, h => by
    obtain ⟨h1, h2⟩ := ptF_u32 (a := a) v hx m (by omega)
    rw [ptF_succ x a m v hx.1]
    have hb : bitAt v m = 0 ∨ bitAt v m = 1 := by have := bitAt_01 v m; omega
    have := setBit_range (ptF x a m v) (a + m) (bitAt v m) h1 h2 (by omega) hb
    omega

set_option maxRecDepth 100000 in
theorem refField_any (x : Int) (a m : Nat) (h1 : 0 ≤ x) (h2 : x < 4294967296) (hm : a + m ≤ 32) (hm1 : 1 ≤ m) (w : World) :
    Calls Try.prog 24 #[.int .u32 x, .int .i64 a, .int .i64 m] w fun e w' => e = .returned (.int .u32 (fld x a m)) ∧ w = w' := by
  have ha : (a : Int) < 32 := by omega
  go_enter Try.func24, Try.ntmps24
  go_wp2_with fail
  go_loop [7, 8] (fun n i => ∃ k : Nat, k ≤ m ∧ i = .int .i64 k ∧ n = .int .u32 (fld x a k)) (fun _ i => m - (intOf i).toNat)
  case atStart => exact ⟨0, by omega, rfl, by rw [fld_zero]⟩
  case round =>
    obtain ⟨k, hk, rfl, rfl⟩ := hrel
    by_cases hlt : k < m
    · have k32 : (k : Int) < 32 := by omega
      have hb := bit_any x (a + k) h1 h2 (by omega)
      rw [Int.natCast_add] at hb
      have Hb := Lib.hid hb; clear hb
      have hu := fld_u32 x a (m := k) (by omega)
      have hs := set_any (fld x a k) k (bitAt x (a + k)) hu.1 hu.2 (by omega) (by have := bitAt_01 x (a + k); omega)
      rw [← fld_succ] at hs
      have Hs := Lib.hid hs; clear hs hu
      go_wp2_with (first
        | (go_at_call 34; refine (Hb.out _).mono ?_; rintro e w' ⟨rfl, rfl⟩)
        | (go_at_call 33; refine (Hs.out _).mono ?_; rintro e w' ⟨rfl, rfl⟩)
        | fail)
      go_round
      case rel => exact ⟨k + 1, by omega, by go_num, rfl⟩
      case measure => simp only [intOf]; omega
    · obtain rfl : k = m := by omega
      go_wp2_with fail
      go_ret
      exact ⟨rfl, rfl⟩

set_option maxRecDepth 100000 in
theorem refPut_any (x v : Int) (a m : Nat) (h1 : 0 ≤ x) (h2 : x < 4294967296) (v1 : 0 ≤ v) (v2 : v < 4294967296) (hm : a + m ≤ 32) (hm1 : 1 ≤ m) (w : World) :
    Calls Try.prog 27 #[.int .u32 x, .int .i64 a, .int .i64 m, .int .u32 v] w fun e w' => e = .returned (.int .u32 (ptF x a m v)) ∧ w = w' := by
  have ha : (a : Int) < 32 := by omega
  go_enter Try.func27, Try.ntmps27
  go_wp2_with fail
  go_loop [0, 9] (fun n i => ∃ k : Nat, k ≤ m ∧ i = .int .i64 k ∧ n = .int .u32 (ptF x a k v)) (fun _ i => m - (intOf i).toNat)
  case atStart => exact ⟨0, by omega, rfl, by rw [ptF_zero]⟩
  case round =>
    obtain ⟨k, hk, rfl, rfl⟩ := hrel
    by_cases hlt : k < m
    · have k32 : (k : Int) < 32 := by omega
      have hb := bit_any v k v1 v2 (by omega)
      have Hb := Lib.hid hb; clear hb
      have hu := ptF_u32 (a := a) v ⟨h1, h2⟩ k (by omega)
      have hs := set_any (ptF x a k v) (a + k) (bitAt v k) hu.1 hu.2 (by omega) (by have := bitAt_01 v k; omega)
      rw [← ptF_succ x a k v h1, Int.natCast_add] at hs
      have Hs := Lib.hid hs; clear hs hu
      go_wp2_with (first
        | (go_at_call 34; refine (Hb.out _).mono ?_; rintro e w' ⟨rfl, rfl⟩)
        | (go_at_call 33; refine (Hs.out _).mono ?_; rintro e w' ⟨rfl, rfl⟩)
        | fail)
      go_round
      case rel => exact ⟨k + 1, by omega, by go_num, rfl⟩
      case measure => simp only [intOf]; omega
    · obtain rfl : k = m := by omega
      go_wp2_with fail
      go_ret
      exact ⟨rfl, rfl⟩

/-- a byte, a half or a word of a word -/
def Part (a m : Nat) : Prop := (m = 8 ∧ (a = 0 ∨ a = 8 ∨ a = 16 ∨ a = 24)) ∨ (m = 16 ∧ (a = 0 ∨ a = 16)) ∨ (m = 32 ∧ a = 0)

theorem mask_any (m : Nat) (h : m = 8 ∨ m = 16 ∨ m = 32) (w : World) : Calls Try.prog 31 #[.int .i64 m] w fun e w' => e = .returned (.int .u64 (pw m - 1)) ∧ w = w' := by
  rcases h with rfl | rfl | rfl <;>
  · go_enter Try.func31, Try.ntmps31
    go_wp2_with fail
    go_ret
    exact ⟨rfl, rfl⟩

theorem and_mask (n m : Nat) (hn : n < 18446744073709551616) (hm : m ≤ 32) : bits .and .u64 (n : Int) (pw m - 1) = ((n % 2 ^ m : Nat) : Int) := by
  have h1 : 0 < 2 ^ m := Nat.pow_pos (by omega)
  have h2 : 2 ^ m ≤ 2 ^ 32 := Nat.pow_le_pow_right (by omega) hm
  simp only [Nat.reducePow] at h2
  have e : (pw m - 1 : Int) = ((2 ^ m - 1 : Nat) : Int) := by unfold pw; omega
  rw [e, u64_and_nat _ _ hn (by omega), Nat.and_two_pow_sub_one_eq_mod]

set_option maxRecDepth 100000 in
theorem field_any (x : Int) (a m : Nat) (h1 : 0 ≤ x) (h2 : x < 4294967296) (hp : Part a m) (w : World) :
    Calls Try.prog 20 #[.int .u32 x, .int .i64 a, .int .i64 m] w fun e w' => e = .returned (.int .u32 (fld x a m)) ∧ w = w' := by
  have hmk := Lib.hid (mask_any m (by unfold Part at hp; omega))
  have hm32 : m ≤ 32 := by unfold Part at hp; omega
  obtain ⟨n, rfl⟩ := Int.eq_ofNat_of_zero_le h1
  have hf := fld_u32 (n : Int) a hm32
  have key : bits .and .u64 ((n / 2 ^ a : Nat) : Int) (pw m - 1) = fld (n : Int) a m := by
    rw [and_mask _ _ (Nat.lt_of_le_of_lt (Nat.div_le_self _ _) (by omega)) hm32]
    unfold fld pw
    simp
  have Key := Lib.hid key; clear key
  have hw32 : IntKind.u32.wrap (fld (n : Int) a m) = fld (n : Int) a m := by rw [IntKind.wrap_u32]; omega
  rcases hp with ⟨rfl, rfl | rfl | rfl | rfl⟩ | ⟨rfl, rfl | rfl⟩ | ⟨rfl, rfl⟩
  all_goals
    go_enter Try.func20, Try.ntmps20
    go_wp2_with fail
    refine (hmk.out _).mono ?_
    rintro e w' ⟨rfl, rfl⟩
    have hk := Key.out
    simp only [Nat.reducePow, Int.natCast_ediv, Nat.div_one, Int.cast_ofNat_Int] at hk
    have hk2 : IntKind.u32.wrap (fld (n : Int) _ _) = fld (n : Int) _ _ := hw32
    go_wp2_with fail
    go_ret
    exact ⟨rfl, rfl⟩
end Go.Proofs.Ytfgipnohomdcoaa
