/- The statement ScanTells: what is found in any words is the document's, and so is what may be written of it. No condition. -/
import Derived.Test.YtcgjppdjjhigoaaScanS
namespace Go.Proofs.Ytcgjppdjjhigoaa
open Go.ChangeShapes Go.WideShapes Go.ChangeAt Go.RowKit
set_option maxHeartbeats 4000000

set_option maxRecDepth 100000 in
theorem scanTells_far (a : Option Addr) (n cap : Nat) (w : World) (h1 : 512 < n) (h2 : n ≤ 9223372036854775807) :
    Calls Try.prog 9 #[.slice a n cap] w fun e w' => e = .returned (.bool true) ∧ Below w.heap.size w w' := by
  go_enter Try.func9, Try.ntmps9
  go_wp2_with fail
  refine (alive06_any _).mono ?_
  rintro e w1 ⟨rfl, hb1⟩
  have HB1 := Lib.hid hb1; clear hb1
  go_wp2_with fail
  go_ret
  exact ⟨rfl, HB1.out⟩

set_option maxRecDepth 100000 in
theorem scanTells_form (a : Option Addr) (n cap : Nat) (w : World) (h1 : n ≤ 512) (h : n % 64 ≠ 0 ∨ n / 64 < 1 ∨ 64 < n / 64) :
    Calls Try.prog 9 #[.slice a n cap] w fun e w' => e = .returned (.bool true) ∧ Below w.heap.size w w' := by
  have H := Lib.hid h; clear h
  go_enter Try.func9, Try.ntmps9
  go_wp2_with fail
  refine (alive06_any _).mono ?_
  rintro e w1 ⟨rfl, hb1⟩
  have HB1 := Lib.hid hb1; clear hb1
  have hc0 : countsOf [] = 0 := rfl
  have Hc0 := Lib.hid hc0; clear hc0
  go_wp2_with (first
    | (go_at_call 31; refine (scanWords_form _ _ _ _ (by omega) H.out).mono ?_; rintro e w2 ⟨rfl, rfl⟩)
    | (go_at_call 32; refine (refWords_form _ _ _ _ (by omega) H.out).mono ?_; rintro e w2 ⟨rfl, rfl⟩)
    | (go_at_call 34; refine (Ours_any _ [] _ (Bl.nil _) (by decide)).mono ?_; rintro e w3 ⟨⟨v3, rfl, ho3⟩, hb3⟩
       have HL3 := Lib.hid (Bl.of_own ho3 (by simp)); have HB3 := Lib.hid (HB1.out.trans (hb3.mono HB1.out.size)); clear ho3 hb3)
    | (go_at_call 33; refine (same_any _ _ [] [] _ HL3.out (Bl.nil _) (by decide) (by decide)).mono ?_; rintro e w4 ⟨rfl, n4, rfl⟩; have HB4 := Lib.hid (bel_drewN HB3.out n4))
    | (go_at_call 35; refine (counts_any _ [] _ (Bl.nil _) (by decide)).mono ?_; rintro e w5 ⟨rfl, hb5⟩; rw [Hc0.out]; have HB5 := Lib.hid (HB4.out.trans (hb5.mono HB4.out.size)); clear hb5)
    | (go_at_call 36; refine (refCounts_any _ [] _ (Bl.nil _) (by decide)).mono ?_; rintro e w6 ⟨rfl, rfl⟩; rw [Hc0.out])
    | fail)
  go_loopw [7, 42] (fun _ i wr => i = .int .i64 0 ∧ Below w.heap.size w wr) (fun _ i _ => 0)
  case atStart => exact ⟨rfl, HB5.out⟩
  case round =>
    obtain ⟨rfl, hB⟩ := hrel
    have HB := Lib.hid hB; clear hB
    go_wp2_with fail
    go_ret
    exact ⟨rfl, HB.out⟩

set_option maxRecDepth 100000 in
theorem scanTells_walk (b off cap m : Nat) (l : List Int) (w : World) (hl : l.length = 64 * m) (hm1 : 1 ≤ m) (hm2 : m ≤ 8) (hcap : l.length ≤ cap) (hc63 : cap ≤ 9223372036854775807) (hb : b < w.heap.size) (hs : Sl w (.slice (some ⟨b, off, none⟩) l.length cap) l) :
    Calls Try.prog 9 #[.slice (some ⟨b, off, none⟩) l.length cap] w fun e w' => e = .returned (.bool true) ∧ Below w.heap.size w w' := by
  have hr := hs.range
  have hok := foundBks_ok hr m
  have hfl := foundBks_length l m
  have Hs := Lib.hid hs; have Hr := Lib.hid hr; have Hok := Lib.hid hok; have Hfl := Lib.hid hfl
  have hlen : l.length ≤ 512 := by omega
  have Hl := Lib.hid hl; clear hl hs hr hok hfl
  have Hi66 : Hid ((Try.prog.info? 68).map (·.size) = some 66) := by unfold Hid; kernel_rfl
  have Hj66 : Hid ((Try.prog.info? 72).map (·.size) = some 66) := by unfold Hid; kernel_rfl
  go_enter Try.func9, Try.ntmps9
  go_wp2_with fail
  refine (alive06_any _).mono ?_
  rintro e w1 ⟨rfl, hb1⟩
  have HB1 := Lib.hid hb1; clear hb1
  go_wp2_with fail
  refine (scanWords_any _ _ _ m l _ Hl.out ⟨hm1, by omega⟩ hcap hc63 (Nat.lt_of_lt_of_le hb HB1.out.size) (Hs.out.below HB1.out)).mono ?_
  rintro e w2 ⟨⟨v2, rfl, ho2⟩, hb2⟩
  have hl2 := bl_found ho2 Hr.out
  obtain ⟨a2, c2, rfl⟩ := hl2.shape
  have HL2 := Lib.hid hl2
  have HB2 := Lib.hid (HB1.out.trans (hb2.mono HB1.out.size))
  clear ho2 hb2 hl2 HB1
  go_wp2_with fail
  refine (refWords_any _ _ _ m l _ Hl.out ⟨hm1, by omega⟩ hcap hc63 (Nat.lt_of_lt_of_le hb HB2.out.size) (Hs.out.below HB2.out)).mono ?_
  rintro e w3 ⟨⟨v3, rfl, ho3⟩, hb3⟩
  have hl3 := bl_found ho3 Hr.out
  obtain ⟨a3, c3, rfl⟩ := hl3.shape
  have HL3 := Lib.hid hl3
  have HL2 := Lib.hid (HL2.out.below hb3)
  have HB3 := Lib.hid (HB2.out.trans (hb3.mono HB2.out.size))
  clear ho3 hb3 hl3 HB2
  obtain ⟨bs, hbs⟩ : ∃ bs, foundBks l m = bs := ⟨_, rfl⟩
  rw [hbs] at HL2 HL3 Hok Hfl ⊢
  clear hbs
  have Hfl : bs.length ≤ 8 := by have := Hfl.out; omega
  go_wp2_with (first
    | (go_at_call 34; refine (Ours_any _ bs _ HL2.out (by omega)).mono ?_; rintro e w4 ⟨⟨v4, rfl, ho4⟩, hb4⟩
       have HL4 := Lib.hid (Bl.of_own ho4 Hok.out); have H4 := Lib.hid hb4; clear ho4 hb4)
    | (go_at_call 33; refine (same_any _ _ bs bs _ HL4.out (HL3.out.below H4.out) (by omega) (by omega)).mono ?_; rintro e w5 ⟨rfl, n5, rfl⟩; have H5 := Lib.hid (bel_drewN H4.out n5); rw [decide_eq_true (rfl : bs = bs)])
    | (go_at_call 35; refine (counts_any _ bs _ (HL2.out.below H5.out) (by omega)).mono ?_; rintro e w6 ⟨rfl, hb6⟩; have H6 := Lib.hid (H5.out.trans (hb6.mono H5.out.size)); clear hb6)
    | (go_at_call 36; refine (refCounts_any _ bs _ (HL3.out.below H6.out) (by omega)).mono ?_; rintro e w7 ⟨rfl, rfl⟩)
    | fail)
  go_loopw [7, 42] (fun _ i wr => ∃ k : Nat, k ≤ bs.length ∧ i = .int .i64 k ∧ Below w3.heap.size w3 wr) (fun _ i _ => bs.length - (intOf i).toNat)
  case atStart => exact ⟨0, by omega, rfl, H6.out⟩
  case round =>
    clear H4 H5 H6
    obtain ⟨k, hk, rfl, hB⟩ := hrel
    have HB := Lib.hid hB; clear hB
    by_cases hlt : k < bs.length
    · obtain ⟨x, hx⟩ : ∃ x, bs[k]? = some x := ⟨_, List.getElem?_eq_getElem hlt⟩
      obtain ⟨hok, b3, off3, cap3, hv, hbw, hrg⟩ := HL3.out.block hx
      simp only [Value.slice.injEq] at hv
      obtain ⟨rfl, -, rfl⟩ := hv
      obtain ⟨-, b2, off2, cap2, hv, hbw2, hrg2⟩ := HL2.out.block hx
      simp only [Value.slice.injEq] at hv
      obtain ⟨rfl, -, rfl⟩ := hv
      have Hrg := Lib.hid hrg; have Hrg2 := Lib.hid hrg2; have Hok := Lib.hid hok
      clear hx hrg hrg2 hok
      go_wp2_with fail
      refine wp_region_abv (by kernel_rfl) (by kernel_rfl) ?_
      iterate 3 (quiet_step (fail))
      refine wpQuiet_ld rfl rfl rfl (by rintro w' ⟨u, rfl⟩; exact bk_load Hok.out (Hrg2.out _ (HB.out.trans (u.b.mono HB.out.size))) Try.underlying68 rfl Hi66.out 0) ?_
      quiet_step ((go_at_call 37; exact Calls.abv _ (next_bk x Hok.out _)))
      iterate 3 (quiet_step (fail))
      refine wpQuiet_ld rfl rfl rfl (by rintro w' ⟨u, rfl⟩; exact bk_load Hok.out (Hrg.out _ (HB.out.trans (u.b.mono HB.out.size))) Try.underlying72 rfl Hj66.out 0) ?_
      quiet_step ((go_at_call 38; exact Calls.abv _ (rnext_bk x Hok.out _)))
      iterate 5 (quiet_step (fail))
      refine wpQuiet_ld rfl rfl rfl (by rintro w' ⟨u, rfl⟩; exact bk_load Hok.out (Hrg2.out _ (HB.out.trans (u.b.mono HB.out.size))) Try.underlying68 rfl Hi66.out 0) ?_
      quiet_step ((go_at_call 39; exact Calls.abv _ (empty_bk x Hok.out _)))
      iterate 3 (quiet_step (fail))
      refine wpQuiet_ld rfl rfl rfl (by rintro w' ⟨u, rfl⟩; exact bk_load Hok.out (Hrg.out _ (HB.out.trans (u.b.mono HB.out.size))) Try.underlying72 rfl Hj66.out 0) ?_
      quiet_step ((go_at_call 40; exact Calls.abv _ (rempty_bk x Hok.out _)))
      iterate 2 (quiet_step (fail))
      refine wpQuiet_nil ?_
      rintro w' ⟨u, rfl⟩
      have HU := Lib.hid (HB.out.trans (u.b.mono HB.out.size))
      go_wp2_with fail
      exact ⟨⟨k + 1, by omega, by go_num, HU.out⟩, by simp only [intOf]; omega⟩
    · obtain rfl : k = bs.length := by omega
      go_wp2_with fail
      go_ret
      exact ⟨rfl, HB3.out.trans (HB.out.mono HB3.out.size)⟩

namespace scanTells
set_option maxRecDepth 100000 in
theorem owed : Owed Try.prog 9 Try.f9 := by
  intro H enc W base args ds p hval hA
  rw [Try.params9] at hval hA
  obtain ⟨hl, _⟩ := trodAll_len _ _ _ _ hA
  obtain ⟨v0, rfl⟩ : ∃ v0, args = #[v0] := by
    obtain ⟨l⟩ := args
    match l, hl with
    | [v0], _ => exact ⟨v0, rfl⟩
  obtain ⟨_, _, _, _, h0, r0⟩ := trodAll_head (v := v0) (vs := []) hA
  clear r0
  have hv0 := hval 0 26 v0 rfl rfl
  clear hval hA
  obtain ⟨a, cap, l, rfl, hcap, hs⟩ := open_words Try.underlying26 Try.underlying22 (by kernel_rfl) hv0 h0
  have hle := okWide_slice_le Try.underlying26 hv0
  by_cases hlen : l.length ≤ 512
  · by_cases hf : l.length % 64 ≠ 0 ∨ l.length / 64 < 1 ∨ 64 < l.length / 64
    · exact scanTells_form a l.length cap W hlen hf
    · obtain ⟨b, off, cap', hv, h1, h2, h3⟩ := sl_slice (hs (by omega)) (by intro e; rw [e] at hf; simp at hf)
      simp only [Value.slice.injEq] at hv
      obtain ⟨rfl, -, rfl⟩ := hv
      exact scanTells_walk b off cap (l.length / 64) l W (by omega) (by omega) (by omega) h1 h2 h3 (hs (by omega))
  · exact scanTells_far a l.length cap W (by omega) hle

theorem own : ownKnob Try.prog.godebug = none := by kernel_rfl
theorem laidOut : laidOutB Try.prog = true := by kernel_rfl

set_option maxRecDepth 100000 in
theorem lifted (os : Os) (started : os.Started) (H : Type) (enc : TypeId × Value → H) :
    ReturnsInHanded {} Try.checked os 9 .any (Rows.scanTellsSpec.pre6 enc Try.prog Try.f9 Rows.scanTellsRow.domain false) (Rows.scanTellsSpec.post enc Try.prog Try.f9 false true false false) := by
  refine law_handed (C := Try.checked) (tb := 4) own started (by kernel_rfl) Try.func9
    (ChangeSpec.witness6 (enc := enc) (C := Try.checked) false ⟨#[], #[.slice none 0 0], []⟩ 8 (by kernel_rfl) (by kernel_rfl) (by kernel_rfl) (by kernel_rfl))
    rfl Try.underlying4 rfl ?_ laidOut (of_decide_eq_true (by kernel_rfl)) owed
  intro ds hl
  match ds, hl with
  | [a], _ => exact ⟨rfl, rfl, rfl⟩

theorem over : Rows.scanTellsRow.holds Try.pinned (OpenSpec.ofChange Rows.scanTellsSpec) :=
  OpenClaim.holds_of_wide 9 Try.f9 rfl rfl rfl rfl rfl rfl rfl ⟨rfl, rfl, rfl, rfl, rfl⟩ rfl rfl rfl rfl rfl (by kernel_rfl) Try.func9 (by kernel_rfl)
    (of_decide_eq_true (by kernel_rfl)) (by unfold Func.isWrapper; first | (rw [if_pos (by decide +kernel)]; kernel_rfl) | (rw [if_neg (by decide +kernel)]; exact ⟨rfl, rfl⟩))
    (fun os started H enc _ => lifted os started H enc)

theorem proved : Rows.ScanTellsSaid := over
end scanTells
#print axioms scanTells.proved
end Go.Proofs.Ytcgjppdjjhigoaa
