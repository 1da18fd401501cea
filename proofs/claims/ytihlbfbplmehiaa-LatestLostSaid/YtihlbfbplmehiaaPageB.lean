/- Walks of package page, and of its reference: comparisons of lists of words, heads and their counts. -/
import Derived.Test.YtihlbfbplmehiaaPageA
namespace Go.Proofs.Ytihlbfbplmehiaa
open Go.RowKit
set_option maxHeartbeats 400000

/-- the same words up to k -/
def samePre (l m : List Int) (k : Nat) : Prop := l.take k = m.take k
theorem samePre_step {l m : List Int} {k : Nat} {x y : Int} (hx : l[k]? = some x) (hy : m[k]? = some y) (h : samePre l m k) (e : x = y) : samePre l m (k + 1) := by
  simp only [samePre, List.take_add_one, hx, hy, e] at *
  rw [h]
theorem samePre_end {l m : List Int} {k : Nat} (hl : l.length = m.length) (hk : l.length ≤ k) (h : samePre l m k) : l = m := by
  rwa [samePre, List.take_of_length_le hk, List.take_of_length_le (by omega)] at h
theorem samePre_not {l m : List Int} {k : Nat} {x y : Int} (hx : l[k]? = some x) (hy : m[k]? = some y) (e : x ≠ y) : l ≠ m := by
  rintro rfl
  rw [hx] at hy
  exact e (Option.some.inj hy)

def Quiet (v : Value) (w : World) (e : Ending) (w' : World) : Prop := e = .returned v ∧ ∃ n, w' = w.drewN n

theorem equal_any (u v : Value) (l m : List Int) (w : World) (hu : Sl w u l) (hv : Sl w v m) : Calls Try.prog 64 #[u, v] w (Quiet (.bool (decide (l = m))) w) := by
  have hbd := hu.bound
  have hbd' := hv.bound
  by_cases hlm : l.length = m.length
  case neg =>
    have hne : decide (l = m) = false := by simp; rintro rfl; exact hlm rfl
    rw [hne]
    have hnl : ¬ (l.length : Int) = m.length := by omega
    clear hne
    have key : ∀ (a b : Option Addr) (c d : Nat), Calls Try.prog 64 #[.slice a l.length c, .slice b m.length d] w (Quiet (.bool false) w) := by
      intro a b c d
      have hb : (l.length == m.length) = false := by simpa using hlm
      go_enter Try.func64, Try.ntmps64
      go_wp2
      go_ret
      exact ⟨rfl, 0, rfl⟩
    rcases hu with ⟨rfl, rfl⟩ | ⟨b, off, cap, rfl, _⟩ <;> rcases hv with ⟨rfl, rfl⟩ | ⟨b', off', cap', rfl, _⟩
    · exact key _ _ _ _
    · exact key _ _ _ _
    · exact key _ _ _ _
    · exact key _ _ _ _
  case pos =>
    rcases hu with ⟨rfl, rfl⟩ | ⟨b, off, cap, rfl, hl, hc, hbd, hb, hcell, hx⟩
    · obtain rfl : m = [] := List.length_eq_zero_iff.1 hlm.symm
      have key : ∀ (a b : Option Addr) (c d : Nat), Calls Try.prog 64 #[.slice a 0 c, .slice b 0 d] w (Quiet (.bool (decide (([] : List Int) = []))) w) := by
        intro a b c d
        go_enter Try.func64, Try.ntmps64
        go_wp2
        go_loop [5, 13] (fun _ i => i = .int .i64 0) (fun _ _ => 0)
        case atStart => rfl
        case round =>
          obtain rfl := hrel
          go_wp2
          go_ret
          exact ⟨rfl, 0, rfl⟩
      rcases hv with ⟨rfl, _⟩ | ⟨b', off', cap', rfl, _⟩
      · exact key _ _ _ _
      · exact key _ _ _ _
    · rcases hv with ⟨rfl, rfl⟩ | ⟨b', off', cap', rfl, hl', hc', hbd', hb', hcell', hx'⟩
      · obtain rfl : l = [] := List.length_eq_zero_iff.1 hlm
        go_enter Try.func64, Try.ntmps64
        go_wp2
        go_loop [5, 13] (fun _ i => i = .int .i64 0) (fun _ _ => 0)
        case atStart => rfl
        case round =>
          obtain rfl := hrel
          go_wp2
          go_ret
          exact ⟨rfl, 0, rfl⟩
      · have hq : ((l.length : Int) != (m.length : Int)) = false := by simp; omega
        have Hlm := Lib.hid hlm; clear hlm
        have Hc := Lib.hid hcell; clear hcell
        have Hc' := Lib.hid hcell'; clear hcell'
        have hml : m.length ≤ l.length := by have := Hlm.out; omega
        have hlm : l.length ≤ m.length := by have := Hlm.out; omega
        clear hx hx'
        go_enter Try.func64, Try.ntmps64
        go_wp2
        go_loopw [5, 13] (fun _ i wr => ∃ k n : Nat, k ≤ l.length ∧ i = .int .i64 k ∧ wr = w.drewN n ∧ samePre l m k) (fun _ i _ => l.length - (intOf i).toNat)
        case atStart => exact ⟨0, 0, Nat.zero_le _, rfl, rfl, rfl⟩
        case round =>
          obtain ⟨k, n, hk, rfl, rfl, hr⟩ := hrel
          have Hr := Lib.hid hr; clear hr
          by_cases hlt : k < l.length
          · obtain ⟨x, hkx⟩ : ∃ x, l[k]? = some x := ⟨_, List.getElem?_eq_getElem hlt⟩
            obtain ⟨y, hky⟩ : ∃ y, m[k]? = some y := ⟨_, List.getElem?_eq_getElem (by omega)⟩
            have hc1 : w.cell? ⟨b, off + k, none⟩ = some (.int .u32 x) := by rw [Hc.out k hlt, hkx]; rfl
            have hc2 : w.cell? ⟨b', off' + k, none⟩ = some (.int .u32 y) := by rw [Hc'.out k (by omega), hky]; rfl
            have Hkx := Lib.hid hkx; clear hkx
            have Hky := Lib.hid hky; clear hky
            by_cases hone : x = y
            · have Ho := Lib.hid hone
              have hb' : (x == y) = true := by simpa using hone
              clear hone
              go_wp2
              go_quiet (fail)
              go_wp2
              go_roundw
              case rel => exact ⟨k + 1, n + nq, by omega, by go_num, rfl, samePre_step Hkx.out Hky.out Hr.out Ho.out⟩
              case measure => simp only [intOf]; omega
            · have Ho := Lib.hid hone
              have hb' : (x == y) = false := by simpa using hone
              clear hone
              go_wp2
              go_quiet (fail)
              go_wp2
              go_ret
              exact ⟨ret_bool (decide_eq_false (samePre_not Hkx.out Hky.out Ho.out)).symm, n + nq, World.drewN_drewN ..⟩
          · go_wp2
            go_ret
            exact ⟨ret_bool (decide_eq_true (samePre_end Hlm.out (by omega) Hr.out)).symm, n, rfl⟩
def kind (l would : List Int) (many : Int) : Int := if (l.length : Int) ≠ many then 2 else if free l then 0 else if l = would then 1 else 2

theorem kind_any (u v : Value) (l m : List Int) (n : Int) (w : World) (hu : Sl w u l) (hv : Sl w v m) : Calls Try.prog 47 #[u, v, .int .i64 n] w (Quiet (.int .i64 (kind l m n)) w) := by
  obtain ⟨a, c, rfl⟩ : ∃ a c, u = .slice a l.length c := by
    rcases hu with ⟨rfl, rfl⟩ | ⟨b, off, cap, rfl, _⟩
    · exact ⟨_, _, rfl⟩
    · exact ⟨_, _, rfl⟩
  by_cases hn : (l.length : Int) = n
  case neg =>
    have Hn := Lib.hid hn; clear hn
    have hb : ((l.length : Int) != n) = true := by simpa using Hn.out
    go_enter Try.func47, Try.ntmps47
    go_wp2
    go_ret
    exact ⟨ret_int (by unfold kind; rw [if_pos Hn.out]), 0, rfl⟩
  case pos =>
    have Hn := Lib.hid hn; clear hn
    have hb : ((l.length : Int) != n) = false := by simpa using Hn.out
    by_cases hf : free l = true
    · have Hf := Lib.hid hf
      go_enter Try.func47, Try.ntmps47
      go_wp2_with (go_at_call 63; refine (containsFunc_any _ _ _ hu).mono ?_; rintro e w' ⟨rfl, rfl⟩)
      go_ret
      exact ⟨ret_int (by unfold kind; rw [if_neg (by simpa using Hn.out), if_pos Hf.out]), 0, rfl⟩
    · have Hf := Lib.hid hf
      have hf' : free l = false := by simpa using hf
      clear hf
      by_cases he : l = m
      · have He := Lib.hid he; clear he
        have hd : decide (l = m) = true := by simpa using He.out
        go_enter Try.func47, Try.ntmps47
        go_wp2_with (first | (go_at_call 63; refine (containsFunc_any _ _ _ hu).mono ?_; rintro e w' ⟨rfl, rfl⟩) | (go_at_call 64; refine (equal_any _ _ _ _ _ hu hv).mono ?_; rintro e w' ⟨rfl, n, rfl⟩))
        go_ret
        exact ⟨ret_int (by unfold kind; rw [if_neg (by simpa using Hn.out), if_neg Hf.out, if_pos He.out]), n, rfl⟩
      · have He := Lib.hid he; clear he
        have hd : decide (l = m) = false := by simpa using He.out
        go_enter Try.func47, Try.ntmps47
        go_wp2_with (first | (go_at_call 63; refine (containsFunc_any _ _ _ hu).mono ?_; rintro e w' ⟨rfl, rfl⟩) | (go_at_call 64; refine (equal_any _ _ _ _ _ hu hv).mono ?_; rintro e w' ⟨rfl, n, rfl⟩))
        go_ret
        exact ⟨ret_int (by unfold kind; rw [if_neg (by simpa using Hn.out), if_neg Hf.out, if_neg He.out]), n, rfl⟩

def header (n : Int) : List Int := if n > 2147483648 then [] else [2970353665, n, 4294967295 - n, 1526644958]

theorem header_any (n : Int) (hn : u32 n) (w : World) : Calls Try.prog 48 #[.int .u32 n] w fun e w' => (∃ v, e = .returned v ∧ Ow w.heap.size 23 w' v (header n)) ∧ Below w.heap.size w w' := by
  obtain ⟨h1, h2⟩ := hn
  by_cases h : 2147483648 < n
  · have hh : header n = [] := by unfold header; rw [if_pos h]
    rw [hh]; clear hh
    go_enter Try.func48, Try.ntmps48
    go_wp2
    go_ret
    exact ⟨⟨_, rfl, Ow.nil ..⟩, Below.refl _ _⟩
  · have hh : header n = [2970353665, n, 4294967295 - n, 1526644958] := by unfold header; rw [if_neg h]
    rw [hh]; clear hh
    have hxor := xor_ones n h1 h2
    have hsg : IntKind.u32.signed = false := rfl
    go_enter Try.func48, Try.ntmps48
    go_wp2
    all_goals go_ret
    all_goals first | (exfalso; simp [IntKind.signed] at *; done) | exact ⟨⟨_, rfl, Ow.of_block (l := [2970353665, n, 4294967295 - n, 1526644958]) (Nat.le_refl _) (heap_alloc_new _ _) (by simp) (by simp; omega)⟩, (Below.refl _ _).alloc (Nat.le_refl _) _⟩

theorem ref_header_any (n : Int) (hn : u32 n) (w : World) : Calls Try.prog 29 #[.int .u32 n] w fun e w' => (∃ v, e = .returned v ∧ Ow w.heap.size 23 w' v (header n)) ∧ Below w.heap.size w w' := by
  obtain ⟨h1, h2⟩ := hn
  by_cases h : 2147483648 < n
  · have hh : header n = [] := by unfold header; rw [if_pos h]
    rw [hh]; clear hh
    go_enter Try.func29, Try.ntmps29
    go_wp2
    go_ret
    exact ⟨⟨_, rfl, Ow.nil ..⟩, Below.refl _ _⟩
  · have hh : header n = [2970353665, n, 4294967295 - n, 1526644958] := by unfold header; rw [if_neg h]
    rw [hh]; clear hh
    go_enter Try.func29, Try.ntmps29
    go_wp2
    all_goals go_ret
    all_goals first | (exfalso; simp [IntKind.signed] at *; done) | exact ⟨⟨_, rfl, Ow.of_block (l := [2970353665, n, 4294967295 - n, 1526644958]) (Nat.le_refl _) (heap_alloc_new _ _) (by simp) (by simp; omega)⟩, (Below.refl _ _).alloc (Nat.le_refl _) _⟩
end Go.Proofs.Ytihlbfbplmehiaa
