/- The statement PagePlaces: pages of blocks stand apart, each within its block. No condition. -/
import Derived.Test.YtcgjppdjjhigoaaPageF
import Derived.Test.YtcgjppdjjhigoaaLift
namespace Go.Proofs.Ytcgjppdjjhigoaa
open Go.RowKit
set_option maxHeartbeats 1000000

theorem fit_u8x2 {cs : List Value} (h : Fit [some .u8, some .u8] cs) : ∃ a b : Int, cs = [.int .u8 a, .int .u8 b] ∧ 0 ≤ a ∧ a < 256 ∧ 0 ≤ b ∧ b < 256 := by
  match cs, h with
  | [.int k a, .int k' b], h =>
    obtain ⟨⟨rfl, h1, h2⟩, ⟨rfl, h3, h4⟩, _⟩ := h
    exact ⟨a, b, rfl, h1, by have : IntKind.u8.max = 255 := rfl; omega, h3, by have : IntKind.u8.max = 255 := rfl; omega⟩

def u8 (x : Int) : Prop := 0 ≤ x ∧ x < 256

theorem at_in (a b : Int) (ha : 0 ≤ a) (ha' : a < 64) (hb : 0 ≤ b) (hb' : b < 8) : atP a b = a * 64 + 4 + b * 7 := by unfold atP; rw [if_neg (by omega)]

set_option maxRecDepth 100000 in
theorem pagePlaces_walk (a0 a1 b0 b1 : Int) (w : World) (ha0 : 0 ≤ a0) (ha0' : a0 < 256) (ha1 : 0 ≤ a1) (ha1' : a1 < 256) (hb0 : 0 ≤ b0) (hb0' : b0 < 256) (hb1 : 0 ≤ b1) (hb1' : b1 < 256) :
    Calls Try.prog 7 #[.agg #[.int .u8 a0, .int .u8 a1], .agg #[.int .u8 b0, .int .u8 b1]] w fun e w' => e = .returned (.bool true) ∧ Below w.heap.size w w' := by
  have hp := at_in (a0 % 64) (a1 % 8) (by omega) (by omega) (by omega) (by omega)
  have hq := at_in (b0 % 64) (b1 % 8) (by omega) (by omega) (by omega) (by omega)
  have Hp := Lib.hid hp; have Hq := Lib.hid hq
  clear hp hq
  go_enter Try.func7, Try.ntmps7
  go_wp2_with fail
  refine (alive04_any _).mono ?_
  rintro e w1 ⟨rfl, hb⟩
  have hsz := hb.size
  have hc0 := hb.cell (p := ⟨w.heap.size, 0, none⟩) (by simp; omega)
  have hc1 := hb.cell (p := ⟨w.heap.size, 1, none⟩) (by simp; omega)
  have hd0 := hb.cell (p := ⟨w.heap.size + 1, 0, none⟩) (by simp)
  have hd1 := hb.cell (p := ⟨w.heap.size + 1, 1, none⟩) (by simp)
  simp at hsz hc0 hc1 hd0 hd1
  have HB := Lib.hid (((Below.refl w.heap.size w).alloc (Nat.le_refl _) _).alloc (by simp) _ |>.trans (hb.mono (by simp; omega)))
  clear hb
  go_wp2_with fail
  go_quiet ((go_at_call 27; exact Calls.quiet_of_same ((at_any _ _ _).mono fun _ _ h => ⟨h.1, h.2.symm⟩)))
  rw [Hp.out, Hq.out]
  go_wp2_with fail
  all_goals go_ret
  all_goals refine ⟨ret_bool ?_, HB.out.trans (below_drewN (Below.refl _ _) _)⟩
  all_goals try rfl
  all_goals (simp; omega)

namespace pagePlaces
set_option maxRecDepth 100000 in
theorem owed : Owed Try.prog 7 Try.f7 := by
  intro H enc W base args ds p hval hA
  rw [Try.params7] at hval hA
  obtain ⟨hl, _⟩ := trodAll_len _ _ _ _ hA
  obtain ⟨v0, v1, rfl⟩ : ∃ v0 v1, args = #[v0, v1] := by
    obtain ⟨l⟩ := args
    match l, hl with
    | [a, b], _ => exact ⟨a, b, rfl⟩
  have hv0 := hval 0 50 v0 rfl rfl
  have hv1 := hval 1 50 v1 rfl rfl
  clear hval hA
  obtain ⟨cs, rfl, hc⟩ := open_flat (ts := [5, 5]) (ks := [some .u8, some .u8]) Try.underlying50 rfl (by kernel_rfl) (by kernel_rfl) (by kernel_rfl) hv0
  obtain ⟨ct, rfl, hd⟩ := open_flat (ts := [5, 5]) (ks := [some .u8, some .u8]) Try.underlying50 rfl (by kernel_rfl) (by kernel_rfl) (by kernel_rfl) hv1
  obtain ⟨a0, a1, rfl, h0, h1, h2, h3⟩ := fit_u8x2 hc
  obtain ⟨b0, b1, rfl, g0, g1, g2, g3⟩ := fit_u8x2 hd
  exact pagePlaces_walk a0 a1 b0 b1 W h0 h1 h2 h3 g0 g1 g2 g3

theorem own : ownKnob Try.prog.godebug = none := by kernel_rfl
theorem laidOut : laidOutB Try.prog = true := by kernel_rfl

set_option maxRecDepth 100000 in
theorem lifted (os : Os) (started : os.Started) (H : Type) (enc : TypeId × Value → H) :
    ReturnsInHanded {} Try.checked os 7 .any (Rows.pagePlacesSpec.pre6 enc Try.prog Try.f7 Rows.pagePlacesRow.domain false) (Rows.pagePlacesSpec.post enc Try.prog Try.f7 false true false false) := by
  refine law_handed (C := Try.checked) (tb := 4) own started (by kernel_rfl) Try.func7
    (ChangeSpec.witness6 (enc := enc) (C := Try.checked) false ⟨#[], #[.agg #[.int .u8 0, .int .u8 0], .agg #[.int .u8 0, .int .u8 0]], []⟩ 8 (by kernel_rfl) (by kernel_rfl) (by kernel_rfl) (by kernel_rfl))
    rfl Try.underlying4 rfl ?_ laidOut (of_decide_eq_true (by kernel_rfl)) owed
  intro ds hl
  match ds, hl with
  | [a, b], _ => exact ⟨rfl, rfl, rfl⟩

theorem over : Rows.pagePlacesRow.holds Try.pinned (OpenSpec.ofChange Rows.pagePlacesSpec) :=
  OpenClaim.holds_of_wide 7 Try.f7 rfl rfl rfl rfl rfl rfl rfl ⟨rfl, rfl, rfl, rfl, rfl⟩ rfl rfl rfl rfl rfl (by kernel_rfl) Try.func7 (by kernel_rfl)
    (of_decide_eq_true (by kernel_rfl)) (by unfold Func.isWrapper; first | (rw [if_pos (by decide +kernel)]; kernel_rfl) | (rw [if_neg (by decide +kernel)]; exact ⟨rfl, rfl⟩))
    (fun os started H enc _ => lifted os started H enc)

theorem proved : Rows.PagePlacesSaid := over
end pagePlaces
#print axioms pagePlaces.proved
end Go.Proofs.Ytcgjppdjjhigoaa
