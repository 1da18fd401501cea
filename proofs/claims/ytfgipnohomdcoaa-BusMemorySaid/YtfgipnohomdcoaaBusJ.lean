/- The statements of layer 16: alive. -/
import Derived.Test.YtfgipnohomdcoaaBusI
import Derived.Test.YtfgipnohomdcoaaMake
namespace Go.Proofs.Ytfgipnohomdcoaa
open Go.RowKit
set_option maxHeartbeats 4000000

theorem BW.br {w : World} {gb gr gw : Nat} {base : Int} {ws : List Int} (h : BW w gb gr gw base ws (.slice none 0 0)) {B : Nat} (h1 : B ≤ gb) : BR w B gb gr gw base ws (.slice none 0 0) [] :=
  ⟨h, ⟨rfl, .inl ⟨rfl, rfl⟩⟩, by simp, h1, Nat.le_trans h1 (Nat.le_of_lt h.bus.lt)⟩

set_option maxRecDepth 100000 in
theorem alive16_any (w : World) : Calls Try.prog 8 #[] w fun e w' => e = .returned (.bool true) ∧ Below w.heap.size w w' := by
  have Hi1 : Hid ((Try.prog.info? 22).map (·.size) = some 1) := by unfold Hid; kernel_rfl
  go_enter Try.func8, Try.ntmps8
  go_wp2_with (first
    | (refine mk_one rfl rfl (n := 2) rfl rfl Try.underlying23 (z := .int .u32 0) (by kernel_rfl) Hi1.out (by kernel_rfl) rfl (by decide) ?_; intro w1 hn1
       have HA1 := Lib.hid (show At w1 w.heap.size [.int .u32 0, .int .u32 0] 22 from hn1.to); have HB1 := Lib.hid (hn1.below (Nat.le_refl _)); have HS1 := Lib.hid HA1.out.lt; clear hn1)
    | (refine bd_run rfl rfl rfl (cells := #[.int .u32 0, .slice (some ⟨w.heap.size, 0, none⟩) 2 2]) (by kernel_rfl) ?_)
    | (refine bx_new rfl (ty := 29) rfl rfl ?_; intro w2 hn2
       have HR2 : Hid (RW w2 w1.heap.size w.heap.size 0 [0, 0]) := ⟨⟨some ⟨w.heap.size, 0, none⟩, 2, hn2.to, .inr ⟨[.int .u32 0, .int .u32 0], rfl, hn2.at HA1.out, rfl, Nat.le_refl 2⟩⟩, by omega, by simp, by decide, Nat.ne_of_gt HS1.out⟩
       have HB2 := Lib.hid (HB1.out.trans (hn2.below HB1.out.size)); clear hn2)
    | (go_at_call 9; refine (busNew_any _).mono ?_; rintro e w3 ⟨rfl, hn3⟩
       have HW3 : Hid (BW w3 w2.heap.size w1.heap.size w.heap.size 0 [0, 0] (.slice none 0 0)) := ⟨hn3.to, HR2.out.below (hn3.below (Nat.le_refl _)), Nat.ne_of_gt (Nat.lt_of_lt_of_le HS1.out (by have := HR2.out.ex; obtain ⟨_, _, hh, _⟩ := this; have := hh.lt; omega))⟩
       have HB3 := Lib.hid (HB2.out.trans (hn3.below HB2.out.size)); clear hn3)
    | fail)
  have hst := busStore_any (t := 0) (sz := 4) (v := 16909060) (by omega) (by omega) w3 HW3.out
  rw [show stS 0 [0, 0] 0 4 = 0 from by decide, show stW 0 [0, 0] 0 4 16909060 = [16909060, 0] from by decide] at hst
  refine hst.mono ?_
  rintro e w4 ⟨rfl, hw4, hs4⟩
  have HW4 := Lib.hid hw4
  have HB4 := Lib.hid (HB3.out.trans (hs4.below (Nat.le_refl _)))
  clear hst hw4 hs4
  have hl1 := busLoad_any (t := 1) (sz := 1) (by omega) w4 HW4.out
  have hl2 := busLoad_any (t := 1) (sz := 2) (by omega) w4 HW4.out
  have hl3 := busLoad_any (t := 8) (sz := 4) (by omega) w4 HW4.out
  have hwd := busWord_any (t := 0) (by omega) w4 HW4.out
  have hpt := busPut_any (t := 4) (v := 7) (by omega) (by omega) w4 HW4.out
  rw [show ldS 0 [16909060, 0] 1 1 = (3, 0) from by decide] at hl1
  rw [show ldS 0 [16909060, 0] 1 2 = (0, 1) from by decide] at hl2
  rw [show ldS 0 [16909060, 0] 8 4 = (0, 2) from by decide] at hl3
  rw [show wdAt 0 [16909060, 0] 0 = (16909060, true) from by decide] at hwd
  rw [show wdAt 0 [16909060, 0] 4 = (0, true) from by decide, show wdPut 0 [16909060, 0] 4 7 = [16909060, 7] from by decide] at hpt
  have HL1 := Lib.hid hl1; have HL2 := Lib.hid hl2; have HL3 := Lib.hid hl3; have HWD := Lib.hid hwd; have HPT := Lib.hid hpt
  clear hl1 hl2 hl3 hwd hpt
  have HB0 : Hid (w.heap.size ≤ w2.heap.size) := HB2.out.size
  go_wp2_with (first
    | ((with_reducible refine HL1.out.mono ?_); rintro e w' ⟨rfl, rfl⟩)
    | ((with_reducible refine HL2.out.mono ?_); rintro e w' ⟨rfl, rfl⟩)
    | ((with_reducible refine HL3.out.mono ?_); rintro e w' ⟨rfl, rfl⟩)
    | (go_at_call 16; refine HWD.out.mono ?_; rintro e w' ⟨rfl, rfl⟩)
    | (go_at_call 17; refine HPT.out.mono ?_; rintro e w5 ⟨rfl, hw5, hs5⟩; have HW5 := Lib.hid hw5; have HB5 := Lib.hid (HB4.out.trans (hs5.below (Nat.le_refl _))); clear hw5 hs5)
    | (refine bd_run rfl rfl rfl (cells := #[.slice none 0 0, .int .u32 0]) (by kernel_rfl) ?_)
    | (refine bx_new rfl (ty := 50) rfl rfl ?_; intro w6 hn6
       have HR6 := Lib.hid ((HW5.out.below (hn6.below (Nat.le_refl _))).br HB0.out); have HB6 := Lib.hid (HB5.out.trans (hn6.below HB5.out.size)); clear hn6)
    | fail)
  refine (busAdd_free (by omega) (by omega) (by decide) (by decide) (by simp) (by simp) w6 HR6.out).mono ?_
  rintro e w7 ⟨rfl, ⟨sv7, rs7, hr7, hrs⟩, hb7⟩
  rw [decide_eq_true (show ∀ r ∈ ([] : List Rg), clear1 8 4 r from by simp)]
  have HR7 := Lib.hid hr7
  have HB7 := Lib.hid (HB6.out.trans hb7)
  clear hr7 hrs hb7
  go_wp2_with (first
    | (refine bd_run rfl rfl rfl (cells := #[.slice none 0 0, .int .u32 0]) (by kernel_rfl) ?_)
    | (refine bx_new rfl (ty := 50) rfl rfl ?_; intro w8 hn8
       have HR8 := Lib.hid (HR7.out.below (hn8.below (Nat.le_refl _))); have HB8 := Lib.hid (HB7.out.trans (hn8.below HB7.out.size)); clear hn8)
    | fail)
  refine (busAdd_ram (by omega) (by omega) (by decide) (by decide) w8 HR8.out).mono ?_
  rintro e w9 ⟨rfl, rfl⟩
  go_wp2_with fail
  go_ret
  exact ⟨rfl, HB8.out⟩
end Go.Proofs.Ytfgipnohomdcoaa
