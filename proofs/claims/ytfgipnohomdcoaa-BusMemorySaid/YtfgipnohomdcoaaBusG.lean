/- Walks of package bus: apart, Add where it refuses at once. -/
import Derived.Test.YtfgipnohomdcoaaBusF
namespace Go.Proofs.Ytfgipnohomdcoaa
open Go.RowKit
set_option maxHeartbeats 4000000

set_option maxRecDepth 100000 in
theorem apart_any (a b c d : Int) (w : World) : Calls Try.prog 29 #[.int .u64 a, .int .u64 b, .int .u64 c, .int .u64 d] w fun e w' => e = .returned (.bool (decide (b ≤ c ∨ d ≤ a))) ∧ w = w' := by
  by_cases h1 : b ≤ c
  · have e : decide (b ≤ c ∨ d ≤ a) = true := decide_eq_true (.inl h1)
    rw [e]
    have b1 : decide (b ≤ c) = true := decide_eq_true h1
    clear e h1
    go_enter Try.func29, Try.ntmps29
    go_wp2_with fail
    go_ret
    exact ⟨rfl, rfl⟩
  · have b1 : decide (b ≤ c) = false := decide_eq_false h1
    by_cases h2 : d ≤ a
    · have e : decide (b ≤ c ∨ d ≤ a) = true := decide_eq_true (.inr h2)
      rw [e]
      have b2 : decide (d ≤ a) = true := decide_eq_true h2
      clear e h1 h2
      go_enter Try.func29, Try.ntmps29
      go_wp2_with fail
      go_ret
      exact ⟨rfl, rfl⟩
    · have e : decide (b ≤ c ∨ d ≤ a) = false := decide_eq_false (fun h => h.elim h1 h2)
      rw [e]
      have b2 : decide (d ≤ a) = false := decide_eq_false h2
      clear e h1 h2
      go_enter Try.func29, Try.ntmps29
      go_wp2_with fail
      go_ret
      exact ⟨rfl, rfl⟩

set_option maxRecDepth 100000 in
theorem busAdd_nil {gb gr : Nat} {sv : Value} {b n : Int} (hb : 0 ≤ b ∧ b < 4294967296) (hn : 0 ≤ n ∧ n < 4294967296) (w : World) (h : At w gb [.pointer (some ⟨gr, 0, none⟩), sv] 57) :
    Calls Try.prog 15 #[.pointer (some ⟨gb, 0, none⟩), .int .u32 b, .int .u32 n, .nilIface] w fun e w' => e = .returned (.bool false) ∧ w = w' := by
  have Hg := Lib.hid (good_any w h); clear h
  go_enter Try.func15, Try.ntmps15
  go_wp2_with (first | (go_at_call 28; refine Hg.out.mono ?_; rintro e w' ⟨rfl, rfl⟩) | fail)
  go_ret
  exact ⟨rfl, rfl⟩

/-- a place and a size that may be -/
def plc (b n : Int) : Prop := b % 4 = 0 ∧ n % 4 = 0 ∧ n ≠ 0 ∧ b + n ≤ 4294967296
instance (b n : Int) : Decidable (plc b n) := by unfold plc; infer_instance

set_option maxRecDepth 100000 in
theorem busAdd_plc {gb gr : Nat} {sv : Value} {b n : Int} {ty : TypeId} {d : Value} (hb : 0 ≤ b ∧ b < 4294967296) (hn : 0 ≤ n ∧ n < 4294967296) (hp : ¬ plc b n) (w : World) (h : At w gb [.pointer (some ⟨gr, 0, none⟩), sv] 57) :
    Calls Try.prog 15 #[.pointer (some ⟨gb, 0, none⟩), .int .u32 b, .int .u32 n, .iface ty d] w fun e w' => e = .returned (.bool false) ∧ w = w' := by
  have Hg := Lib.hid (good_any w h); clear h
  unfold plc at hp
  obtain ⟨hb1, hb2⟩ := hb
  obtain ⟨hn1, hn2⟩ := hn
  by_cases h1 : b % 4 = 0
  · have b1 : (b % 4 != 0) = false := by rw [bne_eq_false_iff_eq]; exact h1
    by_cases h2 : n % 4 = 0
    · have b2 : (n % 4 != 0) = false := by rw [bne_eq_false_iff_eq]; exact h2
      by_cases h3 : n = 0
      · subst h3
        clear hp h1 h2 b2
        go_enter Try.func15, Try.ntmps15
        go_wp2_with (first | (go_at_call 28; refine Hg.out.mono ?_; rintro e w' ⟨rfl, rfl⟩) | fail)
        go_ret
        exact ⟨rfl, rfl⟩
      · have b3 : (n == 0) = false := by rw [beq_eq_false_iff_ne]; exact h3
        have b4 : decide (4294967296 < b + n) = true := by rw [decide_eq_true_eq]; omega
        clear hp h1 h2 h3
        go_enter Try.func15, Try.ntmps15
        go_wp2_with (first | (go_at_call 28; refine Hg.out.mono ?_; rintro e w' ⟨rfl, rfl⟩) | fail)
        go_ret
        exact ⟨rfl, rfl⟩
    · have b2 : (n % 4 != 0) = true := by rw [bne_iff_ne]; exact h2
      clear hp h1 h2
      go_enter Try.func15, Try.ntmps15
      go_wp2_with (first | (go_at_call 28; refine Hg.out.mono ?_; rintro e w' ⟨rfl, rfl⟩) | fail)
      go_ret
      exact ⟨rfl, rfl⟩
  · have b1 : (b % 4 != 0) = true := by rw [bne_iff_ne]; exact h1
    clear hp h1
    go_enter Try.func15, Try.ntmps15
    go_wp2_with (first | (go_at_call 28; refine Hg.out.mono ?_; rintro e w' ⟨rfl, rfl⟩) | fail)
    go_ret
    exact ⟨rfl, rfl⟩
end Go.Proofs.Ytfgipnohomdcoaa
