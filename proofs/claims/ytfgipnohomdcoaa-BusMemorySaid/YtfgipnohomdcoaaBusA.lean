/- Walks of package bus: New, good, check, find; memory alone. -/
import Derived.Test.YtfgipnohomdcoaaRamB
namespace Go.Proofs.Ytfgipnohomdcoaa
open Go.RowKit
set_option maxHeartbeats 4000000

/-- a bus: where it stands, and its memory -/
structure BW (w : World) (gb gr gw : Nat) (base : Int) (ws : List Int) (sv : Value) : Prop where
  bus : At w gb [.pointer (some ⟨gr, 0, none⟩), sv] 57
  ram : RW w gr gw base ws
  ne : gb ≠ gw
theorem BW.below {w w' : World} {gb gr gw : Nat} {base : Int} {ws : List Int} {sv : Value} (h : BW w gb gr gw base ws sv) (hb : Below w.heap.size w w') : BW w' gb gr gw base ws sv := ⟨h.bus.of_below hb, h.ram.below hb, h.ne⟩
theorem BW.drewN {w : World} {gb gr gw : Nat} {base : Int} {ws : List Int} {sv : Value} (h : BW w gb gr gw base ws sv) (n : Nat) : BW (w.drewN n) gb gr gw base ws sv := h.below ((Below.refl _ _).trans ⟨rfl, rfl, rfl, Nat.le_refl _, fun _ _ => rfl⟩)

set_option maxRecDepth 100000 in
theorem good_any {gb gr : Nat} {sv : Value} (w : World) (h : At w gb [.pointer (some ⟨gr, 0, none⟩), sv] 57) : Calls Try.prog 28 #[.pointer (some ⟨gb, 0, none⟩)] w fun e w' => e = .returned (.bool true) ∧ w = w' := by
  have c0 : w.cell? ⟨gb, 0, none⟩ = some (.pointer (some ⟨gr, 0, none⟩)) := h.cell 0
  clear h
  go_enter Try.func28, Try.ntmps28
  go_wp2_with fail
  go_ret
  exact ⟨rfl, rfl⟩
set_option maxRecDepth 100000 in
theorem good_nil (w : World) : Calls Try.prog 28 #[.pointer none] w fun e w' => e = .returned (.bool false) ∧ w = w' := by
  go_enter Try.func28, Try.ntmps28
  go_wp2_with fail
  go_ret
  exact ⟨rfl, rfl⟩
set_option maxRecDepth 100000 in
theorem good_none {gb : Nat} {sv : Value} (w : World) (h : At w gb [.pointer none, sv] 57) : Calls Try.prog 28 #[.pointer (some ⟨gb, 0, none⟩)] w fun e w' => e = .returned (.bool false) ∧ w = w' := by
  have c0 : w.cell? ⟨gb, 0, none⟩ = some (.pointer none) := h.cell 0
  clear h
  go_enter Try.func28, Try.ntmps28
  go_wp2_with fail
  go_ret
  exact ⟨rfl, rfl⟩

set_option maxRecDepth 100000 in
theorem busNew_any {gr : Nat} (w : World) : Calls Try.prog 9 #[.pointer (some ⟨gr, 0, none⟩)] w fun e w' => e = .returned (.pointer (some ⟨w.heap.size, 0, none⟩)) ∧ New w w' (.cells [.pointer (some ⟨gr, 0, none⟩), .slice none 0 0].toArray 57) := by
  go_enter Try.func9, Try.ntmps9
  go_wp2_with (first
    | (refine bd_run rfl rfl rfl (cells := #[.pointer (some ⟨gr, 0, none⟩), .slice none 0 0]) (by kernel_rfl) ?_)
    | (refine bx_new rfl rfl rfl ?_; intro w2 hn2; have HN := Lib.hid hn2; clear hn2)
    | fail)
  go_ret
  exact ⟨rfl, HN.out⟩
set_option maxRecDepth 100000 in
theorem busNew_nil (w : World) : Calls Try.prog 9 #[.pointer none] w fun e w' => e = .returned (.pointer none) ∧ w = w' := by
  go_enter Try.func9, Try.ntmps9
  go_wp2_with fail
  go_ret
  exact ⟨rfl, rfl⟩

/-- what is wrong with a place, and a size -/
def chk (t sz : Int) : Int := if sz ≠ 1 ∧ sz ≠ 2 ∧ sz ≠ 4 then 2 else if t % sz ≠ 0 then 1 else 0

set_option maxRecDepth 100000 in
theorem check_any {gb gr : Nat} {sv : Value} {t sz : Int} (ht : 0 ≤ t ∧ t < 4294967296) (w : World) (h : At w gb [.pointer (some ⟨gr, 0, none⟩), sv] 57) :
    Calls Try.prog 18 #[.pointer (some ⟨gb, 0, none⟩), .int .u32 t, .int .i64 sz] w fun e w' => e = .returned (.int .i64 (chk t sz)) ∧ w = w' := by
  have Hg := Lib.hid (good_any w h); clear h
  obtain ⟨ht1, ht2⟩ := ht
  by_cases h1 : sz = 1
  · subst h1
    have hc : chk t 1 = 0 := by unfold chk; simp [Int.emod_one]
    rw [hc]; clear hc
    go_enter Try.func18, Try.ntmps18
    go_wp2_with (first | (go_at_call 28; refine Hg.out.mono ?_; rintro e w' ⟨rfl, rfl⟩) | fail)
    go_ret
    exact ⟨rfl, rfl⟩
  · by_cases h2 : sz = 2
    · subst h2
      clear h1
      by_cases hm : t % 2 = 0
      · have hc : chk t 2 = 0 := by unfold chk; simp [hm]
        have hb : (t % 2 != 0) = false := by rw [bne_eq_false_iff_eq]; exact hm
        rw [hc]; clear hc hm
        go_enter Try.func18, Try.ntmps18
        go_wp2_with (first | (go_at_call 28; refine Hg.out.mono ?_; rintro e w' ⟨rfl, rfl⟩) | fail)
        go_ret
        exact ⟨rfl, rfl⟩
      · have hc : chk t 2 = 1 := by unfold chk; simp [hm]
        have hb : (t % 2 != 0) = true := by rw [bne_iff_ne]; exact hm
        rw [hc]; clear hc hm
        go_enter Try.func18, Try.ntmps18
        go_wp2_with (first | (go_at_call 28; refine Hg.out.mono ?_; rintro e w' ⟨rfl, rfl⟩) | fail)
        go_ret
        exact ⟨rfl, rfl⟩
    · by_cases h4 : sz = 4
      · subst h4
        clear h1 h2
        by_cases hm : t % 4 = 0
        · have hc : chk t 4 = 0 := by unfold chk; simp [hm]
          have hb : (t % 4 != 0) = false := by rw [bne_eq_false_iff_eq]; exact hm
          rw [hc]; clear hc hm
          go_enter Try.func18, Try.ntmps18
          go_wp2_with (first | (go_at_call 28; refine Hg.out.mono ?_; rintro e w' ⟨rfl, rfl⟩) | fail)
          go_ret
          exact ⟨rfl, rfl⟩
        · have hc : chk t 4 = 1 := by unfold chk; simp [hm]
          have hb : (t % 4 != 0) = true := by rw [bne_iff_ne]; exact hm
          rw [hc]; clear hc hm
          go_enter Try.func18, Try.ntmps18
          go_wp2_with (first | (go_at_call 28; refine Hg.out.mono ?_; rintro e w' ⟨rfl, rfl⟩) | fail)
          go_ret
          exact ⟨rfl, rfl⟩
      · have hc : chk t sz = 2 := by unfold chk; rw [if_pos ⟨h1, h2, h4⟩]
        have b1 : (sz != 1) = true := by rw [bne_iff_ne]; exact h1
        have b2 : (sz != 2) = true := by rw [bne_iff_ne]; exact h2
        have b4 : (sz != 4) = true := by rw [bne_iff_ne]; exact h4
        rw [hc]; clear hc h1 h2 h4
        go_enter Try.func18, Try.ntmps18
        go_wp2_with (first | (go_at_call 28; refine Hg.out.mono ?_; rintro e w' ⟨rfl, rfl⟩) | fail)
        go_ret
        exact ⟨rfl, rfl⟩
set_option maxRecDepth 100000 in
theorem check_bad {v : Value} {t sz : Int} (w : World) (h : Calls Try.prog 28 #[v] w fun e w' => e = .returned (.bool false) ∧ w = w') :
    Calls Try.prog 18 #[v, .int .u32 t, .int .i64 sz] w fun e w' => e = .returned (.int .i64 2) ∧ w = w' := by
  have Hg := Lib.hid h; clear h
  go_enter Try.func18, Try.ntmps18
  go_wp2_with (first | (go_at_call 28; refine Hg.out.mono ?_; rintro e w' ⟨rfl, rfl⟩) | fail)
  go_ret
  exact ⟨rfl, rfl⟩

set_option maxRecDepth 100000 in
theorem find_none {gb gr : Nat} {t : Int} (w : World) (h : At w gb [.pointer (some ⟨gr, 0, none⟩), .slice none 0 0] 57) :
    Calls Try.prog 21 #[.pointer (some ⟨gb, 0, none⟩), .int .u32 t] w fun e w' => e = .returned (.tuple #[.nilIface, .int .u32 0]) ∧ w = w' := by
  have c1 : w.cell? ⟨gb, 1, none⟩ = some (.slice none 0 0) := h.cell 1
  clear h
  go_enter Try.func21, Try.ntmps21
  go_wp2_with fail
  go_loop [7, 13] (fun _ i => i = .int .i64 0) (fun _ _ => 0)
  case atStart => rfl
  case round =>
    subst hrel
    go_wp2_with fail
    go_ret2
    exact ⟨rfl, rfl⟩
end Go.Proofs.Ytfgipnohomdcoaa
