/- Walks of package bus: Store, Word, Put, of memory alone. -/
import Derived.Test.YtfgipnohomdcoaaBusB
namespace Go.Proofs.Ytfgipnohomdcoaa
open Go.RowKit
set_option maxHeartbeats 4000000

/-- what comes of a store; the words behind it -/
def stS (base : Int) (ws : List Int) (t sz : Int) : Int := if chk t sz ≠ 0 then chk t sz else if (wdAt base ws (t - t % 4)).2 then 0 else 2
def stW (base : Int) (ws : List Int) (t sz v : Int) : List Int :=
  if stS base ws t sz = 0 then wdPut base ws (t - t % 4) (ptF (wdAt base ws (t - t % 4)).1 (8 * (t % 4)).toNat (8 * sz).toNat v) else ws

theorem RW.drewN {w : World} {gr gw : Nat} {base : Int} {ws : List Int} (h : RW w gr gw base ws) (n : Nat) : RW (w.drewN n) gr gw base ws := h.below ((Below.refl _ _).trans ⟨rfl, rfl, rfl, Nat.le_refl _, fun _ _ => rfl⟩)
theorem BW.put {w w' : World} {gb gr gw : Nat} {base : Int} {ws ws' : List Int} {sv : Value} (h : BW w gb gr gw base ws sv) (hr : RW w' gr gw base ws') (hs : Same gw w w') : BW w' gb gr gw base ws' sv := ⟨hs.at h.bus h.ne, hr, h.ne⟩

set_option maxRecDepth 100000 in
theorem busStore_any {gb gr gw : Nat} {base t sz v : Int} {ws : List Int} (ht : 0 ≤ t ∧ t < 4294967296) (hv : 0 ≤ v ∧ v < 4294967296) (w : World) (h : BW w gb gr gw base ws (.slice none 0 0)) :
    Calls Try.prog 12 #[.pointer (some ⟨gb, 0, none⟩), .int .u32 t, .int .i64 sz, .int .u32 v] w fun e w' => e = .returned (.int .i64 (stS base ws t sz)) ∧ BW w' gb gr gw base (stW base ws t sz v) (.slice none 0 0) ∧ Same gw w w' := by
  have hck := check_any (t := t) (sz := sz) ht w h.bus
  have c0 : w.cell? ⟨gb, 0, none⟩ = some (.pointer (some ⟨gr, 0, none⟩)) := h.bus.cell 0
  have Hfn := Lib.hid (find_none (t := t) w h.bus)
  have H := Lib.hid h
  clear h
  obtain ⟨ht1, ht2⟩ := ht
  by_cases hc0 : chk t sz = 0
  · have hst : stS base ws t sz = if (wdAt base ws (t - t % 4)).2 then 0 else 2 := by unfold stS; rw [if_neg (by omega)]
    have hstw : stW base ws t sz v = if stS base ws t sz = 0 then wdPut base ws (t - t % 4) (ptF (wdAt base ws (t - t % 4)).1 (8 * (t % 4)).toNat (8 * sz).toNat v) else ws := rfl
    rw [hst] at hstw ⊢
    rw [hstw]
    rw [hc0] at hck
    have Hck := Lib.hid hck; clear hck
    obtain ⟨hs, hpart⟩ := chk_part ht1 hc0
    have hw := ramWord_any (base := base) (ws := ws) (t := t - t % 4) (by omega) w H.out.ram
    have hrng := wdAt_range (base := base) (t := t - t % 4) H.out.ram.r
    have hpr := fun x (hx : 0 ≤ x ∧ x < 4294967296) k => ramPut_any (base := base) (ws := ws) (t := t - t % 4) (v := x) (by omega) hx (w.drewN k) (H.out.ram.drewN k)
    obtain ⟨⟨wd, is⟩, hwd⟩ : ∃ y, wdAt base ws (t - t % 4) = y := ⟨_, rfl⟩
    rw [hwd] at hw hrng hpr ⊢
    dsimp only at hw hrng hpr ⊢
    have hpt := put_any wd v (8 * (t % 4)).toNat (8 * sz).toNat hrng.1 hrng.2 hv.1 hv.2 hpart
    have hpt2 := ptF_u32 (a := (8 * (t % 4)).toNat) v hrng (8 * sz).toNat (by have := hpart; unfold Part at this; omega)
    obtain ⟨pv, hpv⟩ : ∃ pv, ptF wd (8 * (t % 4)).toNat (8 * sz).toNat v = pv := ⟨_, rfl⟩
    rw [hpv] at hpt hpt2 ⊢
    rw [Int.toNat_of_nonneg (by omega), Int.toNat_of_nonneg (by omega)] at hpt
    have hpr := hpr pv hpt2
    have hn1 := andNot3 t ht1 ht2
    have hn2 := and3 t ht1 ht2
    have h41 : 0 ≤ t % 4 := by omega
    have h42 : t % 4 < 4 := by omega
    have hm1 : t % 4 * 8 = 8 * (t % 4) := Int.mul_comm _ _
    have hm2 : sz * 8 = 8 * sz := Int.mul_comm _ _
    rw [← hm1, ← hm2] at hpt
    have Hw1 := Lib.hid (IntWalk.i64_in (t % 4) (by omega))
    have Hw2 := Lib.hid (IntWalk.i64_in (t % 4 * 8) (by omega))
    have Hw3 := Lib.hid (IntWalk.i64_in (sz * 8) (by omega))
    have hsz1 : 1 ≤ sz := by omega
    have hsz2 : sz ≤ 4 := by omega
    have Hw := Lib.hid hw; have Hpt := Lib.hid hpt; have Hpr := Lib.hid hpr
    have Hn1 := Lib.hid hn1; have Hn2 := Lib.hid hn2
    clear hw hpt hpr hwd hc0 hpart hn1 hn2 hm1 hm2 hst hstw hpv
    cases is
    · have hn1 := Hn1.out
      go_enter Try.func12, Try.ntmps12
      go_wp2_with (first
        | (go_at_call 18; refine Hck.out.mono ?_; rintro e w' ⟨rfl, rfl⟩)
        | (go_at_call 19; refine Hw.out.mono ?_; rintro e w' ⟨rfl, rfl⟩)
        | (go_at_call 21; refine Hfn.out.mono ?_; rintro e w' ⟨rfl, rfl⟩)
        | fail)
      go_ret
      exact ⟨rfl, H.out, Same.refl _ _⟩
    · have hn1 := Hn1.out
      have hn2 := Hn2.out
      go_enter Try.func12, Try.ntmps12
      go_wp2_with (first
        | (go_at_call 18; refine Hck.out.mono ?_; rintro e w' ⟨rfl, rfl⟩)
        | (go_at_call 19; refine Hw.out.mono ?_; rintro e w' ⟨rfl, rfl⟩)
        | fail)
      refine wp_region_tail_drew 15 (by kernel_rfl) (by kernel_rfl) ?_
      simp only [List.take_succ_cons, List.take_zero, List.drop_succ_cons, List.drop_zero]
      iterate 14 (first | ((with_reducible refine wpQuiet_step (fun K' hK' => ?_)); go_simp; (with_reducible refine hK' _ ?_); clear hK' K') | ((with_reducible refine wpQuiet_skip ?_ ?_); focus rfl))
      (with_reducible refine wpQuiet_step (fun K' hK' => ?_))
      go_simp
      rw [Hw1.out, Hw2.out, Hw3.out]
      apply Exists.intro
      (with_reducible refine ⟨fun _ => ?_, hK' _ ?_⟩)
      · (go_at_call 26; exact Calls.quiet_of (Hpt.out _))
      clear hK' K'
      refine wpQuiet_nil ?_
      rintro w' ⟨nq, rfl⟩
      go_wp2_with (first
        | (go_at_call 25; refine (Hpr.out nq).mono ?_; rintro e w2 ⟨rfl, hr, hsm⟩; have HR := Lib.hid hr; have HSM := Lib.hid hsm; clear hr hsm)
        | fail)
      go_ret
      exact ⟨rfl, H.out.put HR.out (((Same.refl gw w).drewN nq).trans HSM.out), ((Same.refl gw w).drewN nq).trans HSM.out⟩
  · have hld : stS base ws t sz = chk t sz := by unfold stS; rw [if_pos hc0]
    have hldw : stW base ws t sz v = ws := by unfold stW; rw [if_neg (by rw [hld]; exact hc0)]
    rw [hld, hldw]
    obtain ⟨c, hc⟩ : ∃ c, chk t sz = c := ⟨_, rfl⟩
    rw [hc] at hck hc0 ⊢
    have Hck := Lib.hid hck; clear hck
    have hcb : (c != 0) = true := by rw [bne_iff_ne]; exact hc0
    clear hld hldw hc hc0
    go_enter Try.func12, Try.ntmps12
    go_wp2_with (first
      | (go_at_call 18; refine Hck.out.mono ?_; rintro e w' ⟨rfl, rfl⟩)
      | fail)
    go_ret
    exact ⟨rfl, H.out, Same.refl _ _⟩

set_option maxRecDepth 100000 in
theorem busPut_any {gb gr gw : Nat} {base t v : Int} {ws : List Int} {sv : Value} (ht : 0 ≤ t ∧ t < 4294967296) (hv : 0 ≤ v ∧ v < 4294967296) (w : World) (h : BW w gb gr gw base ws sv) :
    Calls Try.prog 17 #[.pointer (some ⟨gb, 0, none⟩), .int .u32 t, .int .u32 v] w fun e w' => e = .returned (.bool (wdAt base ws t).2) ∧ BW w' gb gr gw base (wdPut base ws t v) sv ∧ Same gw w w' := by
  have Hg := Lib.hid (good_any w h.bus)
  have c0 : w.cell? ⟨gb, 0, none⟩ = some (.pointer (some ⟨gr, 0, none⟩)) := h.bus.cell 0
  have Hw := Lib.hid (ramPut_any (base := base) (ws := ws) ht hv w h.ram)
  have H := Lib.hid h
  clear h
  obtain ⟨is, his⟩ : ∃ is, (wdAt base ws t).2 = is := ⟨_, rfl⟩
  rw [his] at Hw ⊢
  go_enter Try.func17, Try.ntmps17
  go_wp2_with (first
    | (go_at_call 28; refine Hg.out.mono ?_; rintro e w' ⟨rfl, rfl⟩)
    | (go_at_call 25; refine Hw.out.mono ?_; rintro e w2 ⟨rfl, hr, hsm⟩; have HR := Lib.hid hr; have HSM := Lib.hid hsm; clear hr hsm)
    | fail)
  go_ret
  exact ⟨rfl, H.out.put HR.out HSM.out, HSM.out⟩

set_option maxRecDepth 100000 in
theorem busLoad_bad {v : Value} {t sz : Int} (w : World) (h : Calls Try.prog 28 #[v] w fun e w' => e = .returned (.bool false) ∧ w = w') :
    Calls Try.prog 10 #[v, .int .u32 t, .int .i64 sz] w fun e w' => e = .returned (.tuple #[.int .u32 0, .int .i64 2]) ∧ w = w' := by
  have Hck := Lib.hid (check_bad (t := t) (sz := sz) w h); clear h
  go_enter Try.func10, Try.ntmps10
  go_wp2_with (first | (go_at_call 18; refine Hck.out.mono ?_; rintro e w' ⟨rfl, rfl⟩) | fail)
  go_ret2
  exact ⟨rfl, rfl⟩
set_option maxRecDepth 100000 in
theorem busStore_bad {v : Value} {t sz x : Int} (w : World) (h : Calls Try.prog 28 #[v] w fun e w' => e = .returned (.bool false) ∧ w = w') :
    Calls Try.prog 12 #[v, .int .u32 t, .int .i64 sz, .int .u32 x] w fun e w' => e = .returned (.int .i64 2) ∧ w = w' := by
  have Hck := Lib.hid (check_bad (t := t) (sz := sz) w h); clear h
  go_enter Try.func12, Try.ntmps12
  go_wp2_with (first | (go_at_call 18; refine Hck.out.mono ?_; rintro e w' ⟨rfl, rfl⟩) | fail)
  go_ret
  exact ⟨rfl, rfl⟩
set_option maxRecDepth 100000 in
theorem busWord_bad {v : Value} {t : Int} (w : World) (h : Calls Try.prog 28 #[v] w fun e w' => e = .returned (.bool false) ∧ w = w') :
    Calls Try.prog 16 #[v, .int .u32 t] w fun e w' => e = .returned (.tuple #[.int .u32 0, .bool false]) ∧ w = w' := by
  have Hg := Lib.hid h; clear h
  go_enter Try.func16, Try.ntmps16
  go_wp2_with (first | (go_at_call 28; refine Hg.out.mono ?_; rintro e w' ⟨rfl, rfl⟩) | fail)
  go_ret2
  exact ⟨rfl, rfl⟩
set_option maxRecDepth 100000 in
theorem busPut_bad {v : Value} {t x : Int} (w : World) (h : Calls Try.prog 28 #[v] w fun e w' => e = .returned (.bool false) ∧ w = w') :
    Calls Try.prog 17 #[v, .int .u32 t, .int .u32 x] w fun e w' => e = .returned (.bool false) ∧ w = w' := by
  have Hg := Lib.hid h; clear h
  go_enter Try.func17, Try.ntmps17
  go_wp2_with (first | (go_at_call 28; refine Hg.out.mono ?_; rintro e w' ⟨rfl, rfl⟩) | fail)
  go_ret
  exact ⟨rfl, rfl⟩
set_option maxRecDepth 100000 in
theorem busAdd_bad {v d : Value} {b n : Int} (hb : 0 ≤ b ∧ b < 4294967296) (hn : 0 ≤ n ∧ n < 4294967296) (w : World) (h : Calls Try.prog 28 #[v] w fun e w' => e = .returned (.bool false) ∧ w = w') :
    Calls Try.prog 15 #[v, .int .u32 b, .int .u32 n, d] w fun e w' => e = .returned (.bool false) ∧ w = w' := by
  have Hg := Lib.hid h; clear h
  go_enter Try.func15, Try.ntmps15
  go_wp2_with (first | (go_at_call 28; refine Hg.out.mono ?_; rintro e w' ⟨rfl, rfl⟩) | fail)
  go_ret
  exact ⟨rfl, rfl⟩
end Go.Proofs.Ytfgipnohomdcoaa
