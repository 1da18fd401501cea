/- Walk of the program's Put, where a field is a byte, a half or a word. -/
import Derived.Test.YtfgipnohomdcoaaBit4
import Derived.Test.YtfgipnohomdcoaaQuiets
namespace Go.Proofs.Ytfgipnohomdcoaa
open Go.RowKit
set_option maxHeartbeats 4000000

set_option maxRecDepth 100000 in
theorem put_any (x v : Int) (a m : Nat) (h1 : 0 ≤ x) (h2 : x < 4294967296) (v1 : 0 ≤ v) (v2 : v < 4294967296) (hp : Part a m) (w : World) :
    Calls Try.prog 26 #[.int .u32 x, .int .i64 a, .int .i64 m, .int .u32 v] w fun e w' => e = .returned (.int .u32 (ptF x a m v)) ∧ ∃ n, w' = w.drewN n := by
  have hmk := Lib.hid (mask_any m (by unfold Part at hp; omega))
  have hm32 : a + m ≤ 32 := by unfold Part at hp; omega
  have hm1 : 1 ≤ m := by unfold Part at hp; omega
  have Hpb := Lib.hid (put_bits x v a m ⟨h1, h2⟩ ⟨v1, v2⟩ hm32 hm1)
  have hand : bits .and .u64 v (pw m - 1) = v % pw m := by
    obtain ⟨V, rfl⟩ := Int.eq_ofNat_of_zero_le v1
    rw [and_mask V m (by omega) (by omega)]
    unfold pw
    rw [Int.natCast_emod]
  have Hand := Lib.hid hand; clear hand
  have hvm0 := Int.emod_nonneg v (show pw m ≠ 0 by have := pw_pos m; omega)
  have hvm1 := Int.emod_lt_of_pos v (show 0 < pw m by have := pw_pos m; omega)
  obtain ⟨n, hn⟩ : ∃ n, v % pw m = n := ⟨_, rfl⟩
  rw [hn] at Hpb Hand hvm0 hvm1
  clear hn
  rcases hp with ⟨rfl, rfl | rfl | rfl | rfl⟩ | ⟨rfl, rfl | rfl⟩ | ⟨rfl, rfl⟩
  all_goals
    clear hm32 hm1
    have hnb : n < 4294967296 := Int.lt_of_lt_of_le hvm1 (by decide)
    go_enter Try.func26, Try.ntmps26
    go_wp2_with fail
    refine (hmk.out _).mono ?_
    rintro e w' ⟨rfl, rfl⟩
    go_wp2_with fail
    refine (hmk.out _).mono ?_
    rintro e w' ⟨rfl, rfl⟩
    have ha := Hand.out
    go_wp2_with fail
    go_quiet (fail)
    go_wp2_with fail
    go_ret
    refine ⟨ret_int ?_, nq, rfl⟩
    refine Eq.trans (congr (congrArg (bits .or .u32) (congrArg (bits .andNot .u32 x) ?_)) ?_) Hpb.out
    · decide +kernel
    · have p0 : pw 0 = 1 := rfl
      have p8 : pw 8 = 256 := rfl
      have p16 : pw 16 = 65536 := rfl
      have p24 : pw 24 = 16777216 := rfl
      have p32 : pw 32 = 4294967296 := rfl
      simp only [p0, p8, p16, p24, p32] at hvm1 ⊢
      omega
end Go.Proofs.Ytfgipnohomdcoaa
