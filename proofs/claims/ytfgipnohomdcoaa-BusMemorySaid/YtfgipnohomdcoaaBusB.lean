/- Walks of package bus: Load, Word, of memory alone. -/
import Derived.Test.YtfgipnohomdcoaaBusA
namespace Go.Proofs.Ytfgipnohomdcoaa
open Go.RowKit
set_option maxHeartbeats 4000000

/-- what is loaded -/
def ldS (base : Int) (ws : List Int) (t sz : Int) : Int × Int :=
  if chk t sz ≠ 0 then (0, chk t sz) else if (wdAt base ws (t - t % 4)).2 then (fld (wdAt base ws (t - t % 4)).1 (8 * (t % 4)).toNat (8 * sz).toNat, 0) else (0, 2)
theorem chk_part {t sz : Int} (h0 : 0 ≤ t) (h : chk t sz = 0) : (sz = 1 ∨ sz = 2 ∨ sz = 4) ∧ Part (8 * (t % 4)).toNat (8 * sz).toNat := by
  unfold chk at h
  split at h
  · omega
  · split at h
    · omega
    · rename_i h1 h2
      have hs : sz = 1 ∨ sz = 2 ∨ sz = 4 := by omega
      refine ⟨hs, ?_⟩
      unfold Part
      rcases hs with rfl | rfl | rfl
      · left; refine ⟨by omega, ?_⟩; omega
      · right; left; refine ⟨by omega, ?_⟩; omega
      · right; right; refine ⟨by omega, ?_⟩; omega
theorem andNot3 (t : Int) (h1 : 0 ≤ t) (h2 : t < 4294967296) : bits .andNot .u32 t 3 = t - t % 4 := by
  have := put_bits t 0 0 2 ⟨h1, h2⟩ (by omega) (by omega) (by omega)
  have e : (pw 2 - 1) * pw 0 = 3 := rfl
  have e2 : (0 : Int) % pw 2 * pw 0 = 0 := rfl
  rw [e, e2] at this
  obtain ⟨T, rfl⟩ := Int.eq_ofNat_of_zero_le h1
  rw [u32_andNot _ _ h1 h2 (by omega) (by omega)] at this ⊢
  have hle : (T : Int).toNat &&& (4294967295 - (3 : Int).toNat) ≤ (T : Int).toNat := Nat.and_le_left
  rw [u32_or _ _ (by omega) (by omega) (by omega) (by omega)] at this
  simp only [Int.toNat_natCast, Int.toNat_zero, Nat.or_zero] at this ⊢
  rw [this]
  unfold ptF fld
  have p0 : pw 0 = 1 := rfl
  have p2 : pw 2 = 4 := rfl
  rw [p0, p2]
  omega
theorem and3 (t : Int) (h1 : 0 ≤ t) (h2 : t < 4294967296) : bits .and .u32 t 3 = t % 4 := by
  rw [u32_and _ _ h1 h2 (by omega) (by omega)]
  have := nat_mask2 t.toNat
  simp only [show (3 : Int).toNat = 3 from rfl, this]
  omega

theorem wdAt_range {base : Int} {ws : List Int} {t : Int} (h : ∀ x ∈ ws, 0 ≤ x ∧ x < 4294967296) : 0 ≤ (wdAt base ws t).1 ∧ (wdAt base ws t).1 < 4294967296 := by
  unfold wdAt
  split
  · rename_i i hi
    obtain ⟨_, _, _, _, hl⟩ := memIdx_some hi
    show 0 ≤ ws[i]?.getD 0 ∧ ws[i]?.getD 0 < 4294967296
    rw [List.getElem?_eq_getElem hl]
    exact h _ (List.getElem_mem _)
  · simp

set_option maxRecDepth 100000 in
theorem busLoad_any {gb gr gw : Nat} {base t sz : Int} {ws : List Int} (ht : 0 ≤ t ∧ t < 4294967296) (w : World) (h : BW w gb gr gw base ws (.slice none 0 0)) :
    Calls Try.prog 10 #[.pointer (some ⟨gb, 0, none⟩), .int .u32 t, .int .i64 sz] w fun e w' => e = .returned (.tuple #[.int .u32 (ldS base ws t sz).1, .int .i64 (ldS base ws t sz).2]) ∧ w = w' := by
  have hck := check_any (t := t) (sz := sz) ht w h.bus
  have c0 : w.cell? ⟨gb, 0, none⟩ = some (.pointer (some ⟨gr, 0, none⟩)) := h.bus.cell 0
  have Hck := Lib.hid hck
  have Hfn := Lib.hid (find_none (t := t) w h.bus)
  have H := Lib.hid h
  clear hck h
  obtain ⟨ht1, ht2⟩ := ht
  by_cases hc0 : chk t sz = 0
  · have hld : ldS base ws t sz = if (wdAt base ws (t - t % 4)).2 then (fld (wdAt base ws (t - t % 4)).1 (8 * (t % 4)).toNat (8 * sz).toNat, 0) else (0, 2) := by unfold ldS; rw [if_neg (by omega)]
    rw [hc0] at Hck
    obtain ⟨hs, hpart⟩ := chk_part ht1 hc0
    have hw := ramWord_any (base := base) (ws := ws) (t := t - t % 4) (by omega) w H.out.ram
    have hrng := wdAt_range (base := base) (t := t - t % 4) H.out.ram.r
    obtain ⟨⟨wd, is⟩, hwd⟩ : ∃ y, wdAt base ws (t - t % 4) = y := ⟨_, rfl⟩
    rw [hwd] at hw hrng hld
    dsimp only at hw hrng hld
    have hf := field_any wd (8 * (t % 4)).toNat (8 * sz).toNat hrng.1 hrng.2 hpart w
    rw [Int.toNat_of_nonneg (by omega), Int.toNat_of_nonneg (by omega)] at hf
    have hn1 := andNot3 t ht1 ht2
    have hn2 := and3 t ht1 ht2
    have h41 : 0 ≤ t % 4 := by omega
    have h42 : t % 4 < 4 := by omega
    have hm1 : t % 4 * 8 = 8 * (t % 4) := Int.mul_comm _ _
    have hm2 : sz * 8 = 8 * sz := Int.mul_comm _ _
    rw [← hm1, ← hm2] at hf
    have hsz1 : 1 ≤ sz := by omega
    have hsz2 : sz ≤ 4 := by omega
    have Hw := Lib.hid hw; have Hf := Lib.hid hf; have Hld := Lib.hid hld
    have Hn1 := Lib.hid hn1; have Hn2 := Lib.hid hn2
    rw [hld]
    clear hw hf hld hwd hc0 hpart hn1 hn2 hm1 hm2
    cases is
    · have hn1 := Hn1.out
      go_enter Try.func10, Try.ntmps10
      go_wp2_with (first
        | (go_at_call 18; refine Hck.out.mono ?_; rintro e w' ⟨rfl, rfl⟩)
        | (go_at_call 19; refine Hw.out.mono ?_; rintro e w' ⟨rfl, rfl⟩)
        | (go_at_call 21; refine Hfn.out.mono ?_; rintro e w' ⟨rfl, rfl⟩)
        | fail)
      go_ret2
      exact ⟨rfl, rfl⟩
    · have hn1 := Hn1.out
      have hn2 := Hn2.out
      go_enter Try.func10, Try.ntmps10
      go_wp2_with (first
        | (go_at_call 18; refine Hck.out.mono ?_; rintro e w' ⟨rfl, rfl⟩)
        | (go_at_call 19; refine Hw.out.mono ?_; rintro e w' ⟨rfl, rfl⟩)
        | (go_at_call 20; refine Hf.out.mono ?_; rintro e w' ⟨rfl, rfl⟩)
        | fail)
      go_ret2
      exact ⟨by rw [Int.mul_comm 8 (t % 4), Int.mul_comm 8 sz]; rfl, rfl⟩
  · have hld : ldS base ws t sz = (0, chk t sz) := by unfold ldS; rw [if_pos hc0]
    rw [hld]
    obtain ⟨c, hc⟩ : ∃ c, chk t sz = c := ⟨_, rfl⟩
    rw [hc] at Hck hc0 ⊢
    have hcb : (c != 0) = true := by rw [bne_iff_ne]; exact hc0
    clear hld hc hc0
    go_enter Try.func10, Try.ntmps10
    go_wp2_with (first
      | (go_at_call 18; refine Hck.out.mono ?_; rintro e w' ⟨rfl, rfl⟩)
      | fail)
    go_ret2
    exact ⟨rfl, rfl⟩

set_option maxRecDepth 100000 in
theorem busWord_any {gb gr gw : Nat} {base t : Int} {ws : List Int} {sv : Value} (ht : 0 ≤ t ∧ t < 4294967296) (w : World) (h : BW w gb gr gw base ws sv) :
    Calls Try.prog 16 #[.pointer (some ⟨gb, 0, none⟩), .int .u32 t] w fun e w' => e = .returned (.tuple #[.int .u32 (wdAt base ws t).1, .bool (wdAt base ws t).2]) ∧ w = w' := by
  have c0 : w.cell? ⟨gb, 0, none⟩ = some (.pointer (some ⟨gr, 0, none⟩)) := h.bus.cell 0
  have Hg := Lib.hid (good_any w h.bus)
  have Hw := Lib.hid (ramWord_any (base := base) (ws := ws) ht w h.ram)
  clear h
  go_enter Try.func16, Try.ntmps16
  go_wp2_with (first
    | (go_at_call 28; refine Hg.out.mono ?_; rintro e w' ⟨rfl, rfl⟩)
    | (go_at_call 19; refine Hw.out.mono ?_; rintro e w' ⟨rfl, rfl⟩)
    | fail)
  go_ret2
  exact ⟨rfl, rfl⟩
end Go.Proofs.Ytfgipnohomdcoaa
