/- Walk of the reference 01: Words (a part of PageB, for seats without page). -/
import Derived.Test.YtfgipnohomdcoaaChecked
import Derived.Test.YtfgipnohomdcoaaBase
namespace Go.Proofs.Ytfgipnohomdcoaa
open Go.RowKit
set_option maxHeartbeats 400000

/-- the same words up to k -/
def samePre (l m : List Int) (k : Nat) : Prop := l.take k = m.take k
theorem samePre_step {l m : List Int} {k : Nat} {x y : Int} (hx : l[k]? = some x) (hy : m[k]? = some y) (h : samePre l m k) (e : x = y) : samePre l m (k + 1) := by
  simp only [samePre, List.take_add_one, hx, hy, e] at *
  rw [h]
theorem samePre_end {l m : List Int} {k : Nat} (hl : l.length = m.length) (hk : l.length ≤ k) (h : samePre l m k) : l = m := by
  rwa [samePre, List.take_of_length_le hk, List.take_of_length_le (by omega)] at h
theorem samePre_not {l m : List Int} {k : Nat} {x y : Int} (hx : l[k]? = some x) (hy : m[k]? = some y) (e : x ≠ y) : l ≠ m := by
  rintro rfl
  rw [hx] at hy
  exact e (Option.some.inj hy)

def Quiet (v : Value) (w : World) (e : Ending) (w' : World) : Prop := e = .returned v ∧ ∃ n, w' = w.drewN n

theorem ref_words_any (u v : Value) (l m : List Int) (w : World) (hu : Sl w u l) (hv : Sl w v m) : Calls Try.prog 14 #[u, v] w (Quiet (.bool (decide (l = m))) w) := by
  have hbd := hu.bound
  have hbd' := hv.bound
  by_cases hlm : l.length = m.length
  case neg =>
    have hne : decide (l = m) = false := by simp; rintro rfl; exact hlm rfl
    rw [hne]
    have hnl : ¬ (l.length : Int) = m.length := by omega
    clear hne
    have key : ∀ (a b : Option Addr) (c d : Nat), Calls Try.prog 14 #[.slice a l.length c, .slice b m.length d] w (Quiet (.bool false) w) := by
      intro a b c d
      have hb : (l.length == m.length) = false := by simpa using hlm
      go_enter Try.func14, Try.ntmps14
      go_wp2
      go_ret
      exact ⟨rfl, 0, rfl⟩
    rcases hu with ⟨rfl, rfl⟩ | ⟨b, off, cap, rfl, _⟩ <;> rcases hv with ⟨rfl, rfl⟩ | ⟨b', off', cap', rfl, _⟩
    · exact key _ _ _ _
    · exact key _ _ _ _
    · exact key _ _ _ _
    · exact key _ _ _ _
  case pos =>
    rcases hu with ⟨rfl, rfl⟩ | ⟨b, off, cap, rfl, hl, hc, hbd, hb, hcell, hx⟩
    · obtain rfl : m = [] := List.length_eq_zero_iff.1 hlm.symm
      have key : ∀ (a b : Option Addr) (c d : Nat), Calls Try.prog 14 #[.slice a 0 c, .slice b 0 d] w (Quiet (.bool (decide (([] : List Int) = []))) w) := by
        intro a b c d
        go_enter Try.func14, Try.ntmps14
        go_wp2
        go_loop [5] (fun i => i = .int .i64 0) (fun _ => 0)
        case atStart => rfl
        case round =>
          obtain rfl := hrel
          go_wp2
          go_ret
          exact ⟨rfl, 0, rfl⟩
      rcases hv with ⟨rfl, _⟩ | ⟨b', off', cap', rfl, _⟩
      · exact key _ _ _ _
      · exact key _ _ _ _
    · rcases hv with ⟨rfl, rfl⟩ | ⟨b', off', cap', rfl, hl', hc', hbd', hb', hcell', hx'⟩
      · obtain rfl : l = [] := List.length_eq_zero_iff.1 hlm
        go_enter Try.func14, Try.ntmps14
        go_wp2
        go_loop [5] (fun i => i = .int .i64 0) (fun _ => 0)
        case atStart => rfl
        case round =>
          obtain rfl := hrel
          go_wp2
          go_ret
          exact ⟨rfl, 0, rfl⟩
      · have hq : ((l.length : Int) != (m.length : Int)) = false := by simp; omega
        have Hlm := Lib.hid hlm; clear hlm
        have Hc := Lib.hid hcell; clear hcell
        have Hc' := Lib.hid hcell'; clear hcell'
        have hml : m.length ≤ l.length := by have := Hlm.out; omega
        have hlm : l.length ≤ m.length := by have := Hlm.out; omega
        clear hx hx'
        go_enter Try.func14, Try.ntmps14
        go_wp2
        go_loopw [5] (fun i wr => ∃ k n : Nat, k ≤ l.length ∧ i = .int .i64 k ∧ wr = w.drewN n ∧ samePre l m k) (fun i _ => l.length - (intOf i).toNat)
        case atStart => exact ⟨0, 0, Nat.zero_le _, rfl, rfl, rfl⟩
        case round =>
          obtain ⟨k, n, hk, rfl, rfl, hr⟩ := hrel
          have Hr := Lib.hid hr; clear hr
          by_cases hlt : k < l.length
          · obtain ⟨x, hkx⟩ : ∃ x, l[k]? = some x := ⟨_, List.getElem?_eq_getElem hlt⟩
            obtain ⟨y, hky⟩ : ∃ y, m[k]? = some y := ⟨_, List.getElem?_eq_getElem (by omega)⟩
            have hc1 : w.cell? ⟨b, off + k, none⟩ = some (.int .u32 x) := by rw [Hc.out k hlt, hkx]; rfl
            have hc2 : w.cell? ⟨b', off' + k, none⟩ = some (.int .u32 y) := by rw [Hc'.out k (by omega), hky]; rfl
            have Hkx := Lib.hid hkx; clear hkx
            have Hky := Lib.hid hky; clear hky
            by_cases hone : x = y
            · have Ho := Lib.hid hone
              have hb' : (x == y) = true := by simpa using hone
              clear hone
              go_wp2
              go_quiet (fail)
              go_wp2
              go_roundw
              case rel => exact ⟨k + 1, n + nq, by omega, by go_num, rfl, samePre_step Hkx.out Hky.out Hr.out Ho.out⟩
              case measure => simp only [intOf]; omega
            · have Ho := Lib.hid hone
              have hb' : (x == y) = false := by simpa using hone
              clear hone
              go_wp2
              go_quiet (fail)
              go_wp2
              go_ret
              exact ⟨ret_bool (decide_eq_false (samePre_not Hkx.out Hky.out Ho.out)).symm, n + nq, World.drewN_drewN ..⟩
          · go_wp2
            go_ret
            exact ⟨ret_bool (decide_eq_true (samePre_end Hlm.out (by omega) Hr.out)).symm, n, rfl⟩

end Go.Proofs.Ytfgipnohomdcoaa
