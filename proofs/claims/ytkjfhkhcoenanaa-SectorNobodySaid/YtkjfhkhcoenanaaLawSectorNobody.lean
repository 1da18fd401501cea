/- The statement SectorNobody: for every register and value, a device that no call made answers ErrNil, and asks for nothing. -/
import Derived.Test.YtkjfhkhcoenanaaSymM
import Derived.Test.YtkjfhkhcoenanaaLift
namespace Go.Proofs.Ytkjfhkhcoenanaa
open Go.RowKit Go.ChangeShapes Go.WideShapes Go.ChangeAt
set_option maxHeartbeats 4000000

theorem nobody_walk (r v : Int) (w : World) :
    Calls Try.prog 6 #[.int .i64 r, .int .u32 v] w fun e w' => e = .returned (.bool true) ∧ Below w.heap.size w w' :=
  Sy.calls_true (by kernel_rfl) 100000 6 [.int .i64 (.d r), .int .u32 (.d v)] _ rfl (by kernel_rfl) w

namespace sectorNobody
set_option maxRecDepth 100000 in
theorem owed : Owed Try.prog 6 Try.f6 := by
  intro H enc W base args ds p hval hA
  rw [Try.params6] at hval hA
  obtain ⟨hl, _⟩ := trodAll_len _ _ _ _ hA
  obtain ⟨v0, v1, rfl⟩ : ∃ v0 v1, args = #[v0, v1] := by
    obtain ⟨l⟩ := args
    match l, hl with
    | [v0, v1], _ => exact ⟨v0, v1, rfl⟩
  obtain ⟨_, _, _, _, h0, r0⟩ := trodAll_head (v := v0) (vs := [v1]) hA
  obtain ⟨_, _, _, _, h1, r1⟩ := trodAll_head (v := v1) (vs := []) r0
  clear r1
  have hv0 := hval 0 3 v0 rfl rfl
  have hv1 := hval 1 31 v1 rfl rfl
  clear hval hA
  obtain ⟨t, rfl, ht⟩ := open_i64 Try.underlying3 hv0
  obtain ⟨v, rfl, hv⟩ := open_u32 Try.underlying31 hv1
  exact nobody_walk t v W

theorem own : ownKnob Try.prog.godebug = none := by kernel_rfl
theorem laidOut : laidOutB Try.prog = true := by kernel_rfl

set_option maxRecDepth 100000 in
theorem lifted (os : Os) (started : os.Started) (H : Type) (enc : TypeId × Value → H) :
    ReturnsInHanded {} Try.checked os 6 .any (Rows.sectorNobodySpec.pre6 enc Try.prog Try.f6 Rows.sectorNobodyRow.domain false) (Rows.sectorNobodySpec.post enc Try.prog Try.f6 false true false false) := by
  refine law_handed (C := Try.checked) (tb := 4) own started (by kernel_rfl) Try.func6
    (ChangeSpec.witness6 (enc := enc) (C := Try.checked) false ⟨#[], #[.int .i64 0, .int .u32 0], []⟩ 8 (by kernel_rfl) (by kernel_rfl) (by kernel_rfl) (by kernel_rfl))
    rfl Try.underlying4 rfl ?_ laidOut (of_decide_eq_true (by kernel_rfl)) owed
  intro ds hl
  match ds, hl with
  | [a, b], _ => exact ⟨rfl, rfl, rfl⟩

theorem over : Rows.sectorNobodyRow.holds Try.pinned (OpenSpec.ofChange Rows.sectorNobodySpec) :=
  OpenClaim.holds_of_wide 6 Try.f6 rfl rfl rfl rfl rfl rfl rfl ⟨rfl, rfl, rfl, rfl, rfl⟩ rfl rfl rfl rfl rfl (by kernel_rfl) Try.func6 (by kernel_rfl)
    (of_decide_eq_true (by kernel_rfl)) (by unfold Func.isWrapper; first | (rw [if_pos (by decide +kernel)]; kernel_rfl) | (rw [if_neg (by decide +kernel)]; exact ⟨rfl, rfl⟩))
    (fun os started H enc _ => lifted os started H enc)

theorem proved : Rows.SectorNobodySaid := over
end sectorNobody
#print axioms sectorNobody.proved
end Go.Proofs.Ytkjfhkhcoenanaa
