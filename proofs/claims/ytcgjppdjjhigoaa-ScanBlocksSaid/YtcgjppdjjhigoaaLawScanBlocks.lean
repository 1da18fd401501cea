/- The statement ScanBlocks: of whatever blocks there are, what may be written of them, and the greatest count, is the document's. No condition. -/
import Derived.Test.YtcgjppdjjhigoaaScanS
namespace Go.Proofs.Ytcgjppdjjhigoaa
open Go.ChangeShapes Go.WideShapes Go.ChangeAt Go.RowKit
set_option maxHeartbeats 4000000

set_option maxRecDepth 100000 in
theorem scanBlocks_far (a : Option Addr) (n cap : Nat) (w : World) (h1 : 70 < n) (h2 : n ≤ 9223372036854775807) :
    Calls Try.prog 10 #[.slice a n cap] w fun e w' => e = .returned (.bool true) ∧ Below w.heap.size w w' := by
  go_enter Try.func10, Try.ntmps10
  go_wp2_with fail
  refine (alive06_any _).mono ?_
  rintro e w1 ⟨rfl, hb1⟩
  have HB1 := Lib.hid hb1; clear hb1
  go_wp2_with fail
  go_ret
  exact ⟨rfl, HB1.out⟩

set_option maxRecDepth 100000 in
theorem scanBlocks_walk (v : Value) (bs : List Bk) (w : World) (hb : Bl w v bs) (hlen : bs.length ≤ 70) :
    Calls Try.prog 10 #[v] w fun e w' => e = .returned (.bool true) ∧ Below w.heap.size w w' := by
  obtain ⟨a, cp, rfl⟩ := hb.shape
  have Hb := Lib.hid hb; clear hb
  have Hi66 : Hid ((Try.prog.info? 68).map (·.size) = some 66) := by unfold Hid; kernel_rfl
  have Hj66 : Hid ((Try.prog.info? 72).map (·.size) = some 66) := by unfold Hid; kernel_rfl
  go_enter Try.func10, Try.ntmps10
  go_wp2_with fail
  refine (alive06_any _).mono ?_
  rintro e w1 ⟨rfl, hb1⟩
  have HB1 := Lib.hid hb1; clear hb1
  go_wp2_with fail
  refine (Theirs_any _ bs _ (Hb.out.below HB1.out) (by omega)).mono ?_
  rintro e w2 ⟨⟨v2, rfl, ho2⟩, hb2⟩
  have hok : ∀ x ∈ bs, x.ok := by
    rcases Hb.out with ⟨_, rfl⟩ | ⟨_, _, _, _, _, _, _, h, _⟩
    · simp
    · exact h
  have hl2 := Bl.of_own ho2 hok
  obtain ⟨a2, c2, rfl⟩ := hl2.shape
  have HL2 := Lib.hid hl2
  have HB2 := Lib.hid (HB1.out.trans (hb2.mono HB1.out.size))
  clear ho2 hb2 hl2 HB1 hok
  go_wp2_with fail
  go_loopw [4, 14] (fun _ i wr => ∃ k : Nat, k ≤ bs.length ∧ i = .int .i64 k ∧ Below w2.heap.size w2 wr) (fun _ i _ => bs.length - (intOf i).toNat)
  case atStart => exact ⟨0, by omega, rfl, Below.refl _ _⟩
  case round =>
    obtain ⟨k, hk, rfl, hB⟩ := hrel
    have HB := Lib.hid hB; clear hB
    by_cases hlt : k < bs.length
    · obtain ⟨x, hx⟩ : ∃ x, bs[k]? = some x := ⟨_, List.getElem?_eq_getElem hlt⟩
      obtain ⟨hok, b, off, cap, hv, hbw, hrg⟩ := (Hb.out.below HB2.out).block hx
      simp only [Value.slice.injEq] at hv
      obtain ⟨rfl, -, rfl⟩ := hv
      obtain ⟨-, b2, off2, cap2, hv, hbw2, hrg2⟩ := HL2.out.block hx
      simp only [Value.slice.injEq] at hv
      obtain ⟨rfl, -, rfl⟩ := hv
      have Hrg := Lib.hid hrg; have Hrg2 := Lib.hid hrg2; have Hok := Lib.hid hok
      clear hx hrg hrg2 hok
      go_wp2_with fail
      refine wp_region_abv (by kernel_rfl) (by kernel_rfl) ?_
      iterate 3 (quiet_step (fail))
      refine wpQuiet_ld rfl rfl rfl (by rintro w' ⟨u, rfl⟩; exact bk_load Hok.out (Hrg2.out _ (HB.out.trans (u.b.mono HB.out.size))) Try.underlying68 rfl Hi66.out 0) ?_
      quiet_step ((go_at_call 37; exact Calls.abv _ (next_bk x Hok.out _)))
      iterate 3 (quiet_step (fail))
      refine wpQuiet_ld rfl rfl rfl (by rintro w' ⟨u, rfl⟩; exact bk_load Hok.out (Hrg.out _ (HB.out.trans (u.b.mono HB.out.size))) Try.underlying72 rfl Hj66.out 0) ?_
      quiet_step ((go_at_call 38; exact Calls.abv _ (rnext_bk x Hok.out _)))
      iterate 5 (quiet_step (fail))
      refine wpQuiet_ld rfl rfl rfl (by rintro w' ⟨u, rfl⟩; exact bk_load Hok.out (Hrg2.out _ (HB.out.trans (u.b.mono HB.out.size))) Try.underlying68 rfl Hi66.out 0) ?_
      quiet_step ((go_at_call 39; exact Calls.abv _ (empty_bk x Hok.out _)))
      iterate 3 (quiet_step (fail))
      refine wpQuiet_ld rfl rfl rfl (by rintro w' ⟨u, rfl⟩; exact bk_load Hok.out (Hrg.out _ (HB.out.trans (u.b.mono HB.out.size))) Try.underlying72 rfl Hj66.out 0) ?_
      quiet_step ((go_at_call 40; exact Calls.abv _ (rempty_bk x Hok.out _)))
      iterate 2 (quiet_step (fail))
      refine wpQuiet_nil ?_
      rintro w' ⟨u, rfl⟩
      have HU := Lib.hid (HB.out.trans (u.b.mono HB.out.size))
      go_wp2_with fail
      exact ⟨⟨k + 1, by omega, by go_num, HU.out⟩, by simp only [intOf]; omega⟩
    · obtain rfl : k = bs.length := by omega
      go_wp2_with (first
        | (go_at_call 35; refine (counts_any _ bs _ (HL2.out.below HB.out) (by omega)).mono ?_; rintro e w4 ⟨rfl, hb4⟩; have HB4 := Lib.hid (HB.out.trans (hb4.mono HB.out.size)); clear hb4)
        | (go_at_call 36; refine (refCounts_any _ bs _ ((Hb.out.below HB2.out).below HB4.out) (by omega)).mono ?_; rintro e w5 ⟨rfl, rfl⟩)
        | fail)
      go_ret
      exact ⟨ret_bool (by simp), HB2.out.trans (HB4.out.mono HB2.out.size)⟩

theorem fitB_ref : flatAt Try.prog 6 72 = some bkKinds := by kernel_rfl

namespace scanBlocks
set_option maxRecDepth 100000 in
theorem owed : Owed Try.prog 10 Try.f10 := by
  intro H enc W base args ds p hval hA
  rw [Try.params10] at hval hA
  obtain ⟨hl, _⟩ := trodAll_len _ _ _ _ hA
  obtain ⟨v0, rfl⟩ : ∃ v0, args = #[v0] := by
    obtain ⟨l⟩ := args
    match l, hl with
    | [v0], _ => exact ⟨v0, rfl⟩
  obtain ⟨_, _, _, _, h0, r0⟩ := trodAll_head (v := v0) (vs := []) hA
  clear r0
  have hv0 := hval 0 57 v0 rfl rfl
  clear hval hA
  obtain ⟨a, cap, l, rfl, hlen, hes, hfit⟩ := open_flats (s := 66) Try.underlying57 fitB_ref (by kernel_rfl) hv0 h0
  obtain ⟨bs, rfl, hok⟩ := fit_bks l hfit
  simp only [List.length_map] at hes hlen ⊢
  by_cases h70 : bs.length ≤ 70
  · exact scanBlocks_walk _ bs W (bl_of_es hes hok) h70
  · exact scanBlocks_far a bs.length cap W (by omega) hlen

theorem own : ownKnob Try.prog.godebug = none := by kernel_rfl
theorem laidOut : laidOutB Try.prog = true := by kernel_rfl

set_option maxRecDepth 100000 in
theorem lifted (os : Os) (started : os.Started) (H : Type) (enc : TypeId × Value → H) :
    ReturnsInHanded {} Try.checked os 10 .any (Rows.scanBlocksSpec.pre6 enc Try.prog Try.f10 Rows.scanBlocksRow.domain false) (Rows.scanBlocksSpec.post enc Try.prog Try.f10 false true false false) := by
  refine law_handed (C := Try.checked) (tb := 4) own started (by kernel_rfl) Try.func10
    (ChangeSpec.witness6 (enc := enc) (C := Try.checked) false ⟨#[], #[.slice none 0 0], []⟩ 8 (by kernel_rfl) (by kernel_rfl) (by kernel_rfl) (by kernel_rfl))
    rfl Try.underlying4 rfl ?_ laidOut (of_decide_eq_true (by kernel_rfl)) owed
  intro ds hl
  match ds, hl with
  | [a], _ => exact ⟨rfl, rfl, rfl⟩

theorem over : Rows.scanBlocksRow.holds Try.pinned (OpenSpec.ofChange Rows.scanBlocksSpec) :=
  OpenClaim.holds_of_wide 10 Try.f10 rfl rfl rfl rfl rfl rfl rfl ⟨rfl, rfl, rfl, rfl, rfl⟩ rfl rfl rfl rfl rfl (by kernel_rfl) Try.func10 (by kernel_rfl)
    (of_decide_eq_true (by kernel_rfl)) (by unfold Func.isWrapper; first | (rw [if_pos (by decide +kernel)]; kernel_rfl) | (rw [if_neg (by decide +kernel)]; exact ⟨rfl, rfl⟩))
    (fun os started H enc _ => lifted os started H enc)

theorem proved : Rows.ScanBlocksSaid := over
end scanBlocks
#print axioms scanBlocks.proved
end Go.Proofs.Ytcgjppdjjhigoaa
