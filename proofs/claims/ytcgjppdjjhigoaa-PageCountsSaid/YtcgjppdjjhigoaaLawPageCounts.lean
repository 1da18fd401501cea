/- The statement PageCounts: the head of any count, what any words are as a head, and where any page begins, is the document's. No condition. -/
import Derived.Test.YtcgjppdjjhigoaaPageF
import Derived.Test.YtcgjppdjjhigoaaPageG
import Derived.Test.YtcgjppdjjhigoaaLift
import Derived.Deep.RegionHeld3
namespace Go.Proofs.Ytcgjppdjjhigoaa
open Go.ChangeShapes Go.WideShapes Go.ChangeAt Go.RowKit
set_option maxHeartbeats 4000000

set_option maxRecDepth 100000 in
theorem pageCounts_far (n x y : Int) (ua : Option Addr) (len uc : Nat) (w : World) (h1 : 100 < len) (h2 : len ≤ 9223372036854775807) :
    Calls Try.prog 4 #[.int .u32 n, .slice ua len uc, .agg #[.int .i64 x, .int .i64 y]] w fun e w' => e = .returned (.bool true) ∧ Below w.heap.size w w' := by
  go_enter Try.func4, Try.ntmps4
  go_wp2_with fail
  refine (alive04_any _).mono ?_
  rintro e w1 ⟨rfl, hb1⟩
  have HB1 : Hid (Below w.heap.size w w1) := ((Below.refl _ _).alloc (Nat.le_refl _) _).trans (hb1.mono (by simp))
  clear hb1
  go_wp2_with fail
  go_ret
  exact ⟨rfl, HB1.out⟩

set_option maxRecDepth 100000 in
theorem pageCounts_walk (n x y : Int) (hn : u32 n) (u : Value) (l : List Int) (w : World) (hlen : l.length ≤ 100) (hu : Sl w u l) :
    Calls Try.prog 4 #[.int .u32 n, u, .agg #[.int .i64 x, .int .i64 y]] w fun e w' => e = .returned (.bool true) ∧ Below w.heap.size w w' := by
  obtain ⟨ua, uc, rfl⟩ := hu.shape
  generalize hq : (count l).1 = q
  generalize hk : (count l).2 = k
  generalize ha : atP x y = z
  have Hq := Lib.hid hq; have Hk := Lib.hid hk; have Ha := Lib.hid ha
  clear hq hk ha
  have Hn := Lib.hid hn
  clear hn
  go_enter Try.func4, Try.ntmps4
  go_wp2_with fail
  refine (alive04_any _).mono ?_
  rintro e w1 ⟨rfl, hb1⟩
  have hA : At w1 w.heap.size [.int .i64 x, .int .i64 y] 39 := by
    have := hb1.block w.heap.size (by simp)
    unfold At; rw [this]; exact hp_new rfl
  have HB1 : Hid (Below w.heap.size w w1) := ((Below.refl _ _).alloc (Nat.le_refl _) _).trans (hb1.mono (by simp))
  clear hb1
  have Hu1 := Lib.hid (hu.below HB1.out)
  clear hu
  go_wp2_with fail
  refine (count_any _ _ _ Hu1.out).mono ?_
  rintro e w2 ⟨rfl, hb2⟩
  rw [Hq.out, Hk.out]
  have HB2 := Lib.hid (HB1.out.trans (hb2.mono HB1.out.size))
  have hA := hA.of_below hb2
  have Hu2 := Lib.hid (Hu1.out.below hb2)
  clear Hu1 hb2
  go_wp2_with fail
  refine (ref_count_any _ _ _ Hu2.out).mono ?_
  rintro e w4 ⟨rfl, hb3⟩
  rw [Hq.out, Hk.out]
  have HB4 := Lib.hid (HB2.out.trans (hb3.mono HB2.out.size))
  have hA := hA.of_below hb3
  clear Hu2 hb3
  have keepS : ∀ w' : World, Below w4.heap.size w4 w' → (∀ i : Nat, w'.cell? ⟨w.heap.size, i, none⟩ = ([.int .i64 x, .int .i64 y] : List Value)[i]?) ∧ Below w4.heap.size w4 w' := fun w' hb => ⟨(hA.of_below hb).cell, hb⟩
  have KS := Lib.hid keepS
  have hS0 := keepS w4 (Below.refl _ _)
  have Hat := Lib.hid (at_any x y); have Hrat := Lib.hid (ref_at_any x y)
  have Hh := Lib.hid (header_any n Hn.out); have Hrh := Lib.hid (ref_header_any n Hn.out)
  rw [Ha.out] at Hat Hrat
  clear keepS hA hlen
  go_wp2_with fail
  go_region_held3 (fun w' => (∀ i : Nat, w'.cell? ⟨w.heap.size, i, none⟩ = ([.int .i64 x, .int .i64 y] : List Value)[i]?) ∧ Below w4.heap.size w4 w')
    (first
      | exact KS.out _ ((Below.refl _ _).drew)
      | (go_split_ands; exact KS.out _ (Below.trans (by assumption) (hb.mono (Below.size (by assumption)))))
      | (go_split_ands; exact KS.out _ (below_drewN (by assumption) _))
      | go_keep)
    (first
      | (go_at_call 25; refine (Hh.out _).mono ?_; rintro e w' ⟨⟨v1, rfl, hv1⟩, hb⟩)
      | (go_at_call 26; refine (Hrh.out _).mono ?_; rintro e w' ⟨⟨v2, rfl, hv2⟩, hb⟩)
      | (go_at_call 20; refine (ref_words_any _ _ _ _ _ (hv1.sl.below hb) hv2.sl).mono ?_; rintro e w' ⟨rfl, n, rfl⟩)
      | (go_at_call 20; refine (ref_words_any _ _ _ _ _ hv1.sl (hv2.sl.below hb)).mono ?_; rintro e w' ⟨rfl, n, rfl⟩)
      | (go_at_call 27; refine (Hat.out _).mono ?_; rintro e w' ⟨rfl, rfl⟩)
      | (go_at_call 28; refine (Hrat.out _).mono ?_; rintro e w' ⟨rfl, rfl⟩))
  go_split_ands
  go_wp2_with fail
  go_ret
  exact ⟨rfl, HB4.out.trans (Below.mono (by assumption) HB4.out.size)⟩

theorem fit_i64x2 {cs : List Value} (h : Fit [some .i64, some .i64] cs) : ∃ a b : Int, cs = [.int .i64 a, .int .i64 b] := by
  match cs, h with
  | [.int k a, .int k' b], h =>
    obtain ⟨⟨rfl, _, _⟩, ⟨rfl, _, _⟩, _⟩ := h
    exact ⟨a, b, rfl⟩

namespace pageCounts
set_option maxRecDepth 100000 in
theorem owed : Owed Try.prog 4 Try.f4 := by
  intro H enc W base args ds p hval hA
  rw [Try.params4] at hval hA
  obtain ⟨hl, _⟩ := trodAll_len _ _ _ _ hA
  obtain ⟨v0, v1, v2, rfl⟩ : ∃ v0 v1 v2, args = #[v0, v1, v2] := by
    obtain ⟨l⟩ := args
    match l, hl with
    | [v0, v1, v2], _ => exact ⟨v0, v1, v2, rfl⟩
  obtain ⟨_, _, _, _, h0, r0⟩ := trodAll_head (v := v0) (vs := [v1, v2]) hA
  obtain ⟨_, _, _, _, h1, r1⟩ := trodAll_head (v := v1) (vs := [v2]) r0
  obtain ⟨_, _, _, _, h2, r2⟩ := trodAll_head (v := v2) (vs := []) r1
  clear r2
  have hv0 := hval 0 22 v0 rfl rfl
  have hv1 := hval 1 26 v1 rfl rfl
  have hv2 := hval 2 39 v2 rfl rfl
  clear hval hA
  obtain ⟨n, rfl, hn⟩ := open_u32 Try.underlying22 hv0
  obtain ⟨cs, rfl, hc⟩ := open_flat (ts := [3, 3]) (ks := [some .i64, some .i64]) Try.underlying39 rfl (by kernel_rfl) (by kernel_rfl) (by kernel_rfl) hv2
  obtain ⟨x, y, rfl⟩ := fit_i64x2 hc
  obtain ⟨a, cap, l, rfl, hcap, hs⟩ := open_words Try.underlying26 Try.underlying22 (by kernel_rfl) hv1 h1
  by_cases hlen : l.length ≤ 100
  · exact pageCounts_walk n x y hn _ l W hlen (hs (by omega))
  · refine pageCounts_far n x y a l.length cap W (by omega) ?_
    have := okWide_slice_le Try.underlying26 hv1
    omega

theorem own : ownKnob Try.prog.godebug = none := by kernel_rfl
theorem laidOut : laidOutB Try.prog = true := by kernel_rfl

set_option maxRecDepth 100000 in
theorem lifted (os : Os) (started : os.Started) (H : Type) (enc : TypeId × Value → H) :
    ReturnsInHanded {} Try.checked os 4 .any (Rows.pageCountsSpec.pre6 enc Try.prog Try.f4 Rows.pageCountsRow.domain false) (Rows.pageCountsSpec.post enc Try.prog Try.f4 false true false false) := by
  refine law_handed (C := Try.checked) (tb := 4) own started (by kernel_rfl) Try.func4
    (ChangeSpec.witness6 (enc := enc) (C := Try.checked) false ⟨#[], #[.int .u32 0, .slice none 0 0, .agg #[.int .i64 0, .int .i64 0]], []⟩ 8 (by kernel_rfl) (by kernel_rfl) (by kernel_rfl) (by kernel_rfl))
    rfl Try.underlying4 rfl ?_ laidOut (of_decide_eq_true (by kernel_rfl)) owed
  intro ds hl
  match ds, hl with
  | [a, b, c], _ => exact ⟨rfl, rfl, rfl⟩

theorem over : Rows.pageCountsRow.holds Try.pinned (OpenSpec.ofChange Rows.pageCountsSpec) :=
  OpenClaim.holds_of_wide 4 Try.f4 rfl rfl rfl rfl rfl rfl rfl ⟨rfl, rfl, rfl, rfl, rfl⟩ rfl rfl rfl rfl rfl (by kernel_rfl) Try.func4 (by kernel_rfl)
    (of_decide_eq_true (by kernel_rfl)) (by unfold Func.isWrapper; first | (rw [if_pos (by decide +kernel)]; kernel_rfl) | (rw [if_neg (by decide +kernel)]; exact ⟨rfl, rfl⟩))
    (fun os started H enc _ => lifted os started H enc)

theorem proved : Rows.PageCountsSaid := over
end pageCounts
#print axioms pageCounts.proved
end Go.Proofs.Ytcgjppdjjhigoaa
