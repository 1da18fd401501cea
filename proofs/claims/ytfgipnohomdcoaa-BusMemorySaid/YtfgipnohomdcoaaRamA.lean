/- Walks of package walk's memory, and of the small words of package bus. -/
import Derived.Test.YtfgipnohomdcoaaBit5
import Derived.Test.YtfgipnohomdcoaaMemB
namespace Go.Proofs.Ytfgipnohomdcoaa
open Go.RowKit
set_option maxHeartbeats 4000000

/-- where a word is -/
def memIdx (base t : Int) (n : Nat) : Option Nat := if base ≤ t ∧ t % 4 = 0 ∧ (t - base) % 4 = 0 ∧ (t - base) / 4 < n then some ((t - base) / 4).toNat else none
theorem memIdx_some {base t : Int} {n i : Nat} (h : memIdx base t n = some i) : base ≤ t ∧ t % 4 = 0 ∧ (t - base) % 4 = 0 ∧ (t - base) / 4 = (i : Int) ∧ i < n := by
  unfold memIdx at h
  split at h
  · rename_i hc
    simp only [Option.some.injEq] at h
    omega
  · cases h

set_option maxRecDepth 100000 in
theorem place_some {base t : Int} {n i gr gw off cap : Nat} (hb : 0 ≤ base ∧ base < 4294967296) (ht : 0 ≤ t ∧ t < 4294967296) (hn : n ≤ 1000000) (h : memIdx base t n = some i) (w : World) (hA : At w gr [.int .u32 base, .slice (some ⟨gw, off, none⟩) n cap] 29) :
    Calls Try.prog 30 #[.pointer (some ⟨gr, 0, none⟩), .int .u32 t] w fun e w' => e = .returned (.tuple #[.pointer (some ⟨gw, off + i, none⟩), .bool true]) ∧ w = w' := by
  obtain ⟨h1, h2, h3, h4, h5⟩ := memIdx_some h
  clear h
  have c0 : w.cell? ⟨gr, 0, none⟩ = some (.int .u32 base) := hA.cell 0
  have c1 : w.cell? ⟨gr, 1, none⟩ = some (.slice (some ⟨gw, off, none⟩) n cap) := hA.cell 1
  have b1 : decide (t < base) = false := by rw [decide_eq_false_iff_not]; omega
  have b2 : (t % 4 != 0) = false := by rw [bne_eq_false_iff_eq]; exact h2
  have b3 : ((t - base) % 4 != 0) = false := by rw [bne_eq_false_iff_eq]; exact h3
  have b4 : decide ((n : Int) ≤ (t - base) / 4) = false := by rw [decide_eq_false_iff_not]; omega
  have b5 : ((t - base) / 4).toNat = i := by omega
  have b6 : (t - base) / 4 < (n : Int) := by omega
  have b7 : 0 ≤ (t - base) / 4 := by omega
  have b8 : 0 ≤ t - base := by omega
  have HA := Lib.hid hA
  clear h2 h3 h4 hA
  go_enter Try.func30, Try.ntmps30
  go_wp2_with fail
  go_ret2
  exact ⟨rfl, rfl⟩

set_option maxRecDepth 100000 in
theorem place_none {base t : Int} {n gr cap : Nat} {a : Option Addr} (hb : 0 ≤ base ∧ base < 4294967296) (ht : 0 ≤ t ∧ t < 4294967296) (hn : n ≤ 1000000) (h : memIdx base t n = none) (w : World) (hA : At w gr [.int .u32 base, .slice a n cap] 29) :
    Calls Try.prog 30 #[.pointer (some ⟨gr, 0, none⟩), .int .u32 t] w fun e w' => e = .returned (.tuple #[.pointer none, .bool false]) ∧ w = w' := by
  have hc : ¬ (base ≤ t ∧ t % 4 = 0 ∧ (t - base) % 4 = 0 ∧ (t - base) / 4 < n) := by
    intro hc; unfold memIdx at h; rw [if_pos hc] at h; cases h
  clear h
  have c0 : w.cell? ⟨gr, 0, none⟩ = some (.int .u32 base) := hA.cell 0
  have c1 : w.cell? ⟨gr, 1, none⟩ = some (.slice a n cap) := hA.cell 1
  have HA := Lib.hid hA; clear hA
  have Hc := Lib.hid hc; clear hc
  by_cases h1 : t < base
  · have b1 : decide (t < base) = true := by rw [decide_eq_true_eq]; omega
    go_enter Try.func30, Try.ntmps30
    go_wp2_with fail
    go_ret2
    exact ⟨rfl, rfl⟩
  · have b1 : decide (t < base) = false := by rw [decide_eq_false_iff_not]; omega
    have b8 : 0 ≤ t - base := by omega
    have b9 : t - base < 4294967296 := by omega
    by_cases h2 : t % 4 = 0
    · have b2 : (t % 4 != 0) = false := by rw [bne_eq_false_iff_eq]; exact h2
      by_cases h3 : (t - base) % 4 = 0
      · have b3 : ((t - base) % 4 != 0) = false := by rw [bne_eq_false_iff_eq]; exact h3
        have b4 : decide ((n : Int) ≤ (t - base) / 4) = true := by
          rw [decide_eq_true_eq]
          have hh := Hc.out
          omega
        clear h1 h2 h3
        go_enter Try.func30, Try.ntmps30
        go_wp2_with fail
        go_ret2
        exact ⟨rfl, rfl⟩
      · have b3 : ((t - base) % 4 != 0) = true := by rw [bne_iff_ne]; exact h3
        clear h1 h2 h3
        go_enter Try.func30, Try.ntmps30
        go_wp2_with fail
        go_ret2
        exact ⟨rfl, rfl⟩
    · have b2 : (t % 4 != 0) = true := by rw [bne_iff_ne]; exact h2
      clear h1 h2
      go_enter Try.func30, Try.ntmps30
      go_wp2_with fail
      go_ret2
      exact ⟨rfl, rfl⟩
end Go.Proofs.Ytfgipnohomdcoaa
