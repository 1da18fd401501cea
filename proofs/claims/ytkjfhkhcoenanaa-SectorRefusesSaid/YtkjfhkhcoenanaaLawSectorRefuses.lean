/- The statement SectorRefuses. -/
import Derived.Test.YtkjfhkhcoenanaaSymM
import Derived.Test.YtkjfhkhcoenanaaLift
namespace Go.Proofs.Ytkjfhkhcoenanaa
open Go.RowKit Go.ChangeShapes Go.WideShapes Go.ChangeAt
set_option maxHeartbeats 4000000

theorem sectorRefuses_walk (x0 x1 x2 : Int) (h0 : 0 ≤ x0 ∧ x0 ≤ 4294967295) (h1 : 0 ≤ x1 ∧ x1 ≤ 4294967295) (h2 : 0 ≤ x2 ∧ x2 ≤ 4294967295) (w : World) :
    Calls Try.prog 4 #[.int .u32 x0, .int .u32 x1, .int .u32 x2] w fun e w' => e = .returned (.bool true) ∧ Below w.heap.size w w' :=
  Sy.calls_true (by kernel_rfl) (fun i => [x0, x1, x2].getD i 0) 100000 4 [.int .u32 (.d (.v 0)), .int .u32 (.d (.v 1)), .int .u32 (.d (.v 2))] _ (Sy.gok_of (xs := [x0, x1, x2]) (vs := [(0, 4294967295), (0, 4294967295), (0, 4294967295)]) ⟨h0, h1, h2, trivial⟩ 0) rfl rfl (by kernel_rfl) w

namespace sectorRefuses
set_option maxRecDepth 100000 in
theorem owed : Owed Try.prog 4 Try.f4 := by
  intro H enc W base args ds p hval hA
  rw [Try.params4] at hval hA
  obtain ⟨hl, _⟩ := trodAll_len _ _ _ _ hA
  obtain ⟨v0, v1, v2, rfl⟩ : ∃ v0 v1 v2, args = #[v0, v1, v2] := by
    obtain ⟨l⟩ := args
    match l, hl with
    | [v0, v1, v2], _ => exact ⟨v0, v1, v2, rfl⟩
  obtain ⟨_, _, _, _, h0, r0⟩ := trodAll_head (v := v0) (vs := [v1, v2]) hA
  obtain ⟨_, _, _, _, h1, r1⟩ := trodAll_head (v := v1) (vs := [v2]) r0
  obtain ⟨_, _, _, _, h2, r2⟩ := trodAll_head (v := v2) (vs := []) r1
  clear r2
  have hv0 := hval 0 31 v0 rfl rfl
  have hv1 := hval 1 31 v1 rfl rfl
  have hv2 := hval 2 31 v2 rfl rfl
  clear hval hA
  obtain ⟨x0, rfl, hx0⟩ := open_u32 Try.underlying31 hv0
  obtain ⟨x1, rfl, hx1⟩ := open_u32 Try.underlying31 hv1
  obtain ⟨x2, rfl, hx2⟩ := open_u32 Try.underlying31 hv2
  exact sectorRefuses_walk x0 x1 x2 ⟨by omega, by omega⟩ ⟨by omega, by omega⟩ ⟨by omega, by omega⟩ W

theorem own : ownKnob Try.prog.godebug = none := by kernel_rfl
theorem laidOut : laidOutB Try.prog = true := by kernel_rfl

set_option maxRecDepth 100000 in
theorem lifted (os : Os) (started : os.Started) (H : Type) (enc : TypeId × Value → H) :
    ReturnsInHanded {} Try.checked os 4 .any (Rows.sectorRefusesSpec.pre6 enc Try.prog Try.f4 Rows.sectorRefusesRow.domain false) (Rows.sectorRefusesSpec.post enc Try.prog Try.f4 false true false false) := by
  refine law_handed (C := Try.checked) (tb := 4) own started (by kernel_rfl) Try.func4
    (ChangeSpec.witness6 (enc := enc) (C := Try.checked) false ⟨#[], #[.int .u32 0, .int .u32 0, .int .u32 0], []⟩ 8 (by kernel_rfl) (by kernel_rfl) (by kernel_rfl) (by kernel_rfl))
    rfl Try.underlying4 rfl ?_ laidOut (of_decide_eq_true (by kernel_rfl)) owed
  intro ds hl
  match ds, hl with
  | [a, b, c], _ => exact ⟨rfl, rfl, rfl⟩

theorem over : Rows.sectorRefusesRow.holds Try.pinned (OpenSpec.ofChange Rows.sectorRefusesSpec) :=
  OpenClaim.holds_of_wide 4 Try.f4 rfl rfl rfl rfl rfl rfl rfl ⟨rfl, rfl, rfl, rfl, rfl⟩ rfl rfl rfl rfl rfl (by kernel_rfl) Try.func4 (by kernel_rfl)
    (of_decide_eq_true (by kernel_rfl)) (by unfold Func.isWrapper; first | (rw [if_pos (by decide +kernel)]; kernel_rfl) | (rw [if_neg (by decide +kernel)]; exact ⟨rfl, rfl⟩))
    (fun os started H enc _ => lifted os started H enc)

theorem proved : Rows.SectorRefusesSaid := over
end sectorRefuses
#print axioms sectorRefuses.proved
end Go.Proofs.Ytkjfhkhcoenanaa
