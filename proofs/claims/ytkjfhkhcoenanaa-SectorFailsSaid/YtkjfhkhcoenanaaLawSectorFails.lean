/- The statement SectorFails. -/
import Derived.Test.YtkjfhkhcoenanaaSymN
namespace Go.Proofs.Ytkjfhkhcoenanaa
open Go.RowKit Go.ChangeShapes Go.WideShapes Go.ChangeAt
set_option maxHeartbeats 4000000

def sectorFailsSh : List Sy.Sh := [.i .u8, .i .u8, .i .u32]
theorem sectorFails_run : (Sy.xcall Try.prog 100000 ⟨Sy.shB sectorFailsSh, [], [], 0⟩ 5 (Sy.shArgs sectorFailsSh 0) Sy.mem0).allB Sy.isTrue = true := by kernel_rfl

namespace sectorFails
set_option maxRecDepth 100000 in
theorem owed : Owed Try.prog 5 Try.f5 := by
  intro H enc W base args ds p hval hA
  rw [Try.params5] at hval hA
  obtain ⟨hl, _⟩ := trodAll_len _ _ _ _ hA
  obtain ⟨v0, v1, v2, rfl⟩ : ∃ v0 v1 v2, args = #[v0, v1, v2] := by
    obtain ⟨l⟩ := args
    match l, hl with
    | [v0, v1, v2], _ => exact ⟨v0, v1, v2, rfl⟩
  obtain ⟨_, _, _, _, h0, r0⟩ := trodAll_head (v := v0) (vs := [v1, v2]) hA
  obtain ⟨_, _, _, _, h1, r1⟩ := trodAll_head (v := v1) (vs := [v2]) r0
  obtain ⟨_, _, _, _, h2, r2⟩ := trodAll_head (v := v2) (vs := []) r1
  clear r2
  have hv0 := hval 0 5 v0 rfl rfl
  have hv1 := hval 1 5 v1 rfl rfl
  have hv2 := hval 2 31 v2 rfl rfl
  clear hval hA
  exact Sy.calls_sh (by kernel_rfl) 100000 5 sectorFailsSh [v0, v1, v2] ⟨open_int_ok Try.underlying5 hv0, open_int_ok Try.underlying5 hv1, open_int_ok Try.underlying31 hv2, trivial⟩ sectorFails_run W

theorem own : ownKnob Try.prog.godebug = none := by kernel_rfl
theorem laidOut : laidOutB Try.prog = true := by kernel_rfl

set_option maxRecDepth 100000 in
theorem lifted (os : Os) (started : os.Started) (H : Type) (enc : TypeId × Value → H) :
    ReturnsInHanded {} Try.checked os 5 .any (Rows.sectorFailsSpec.pre6 enc Try.prog Try.f5 Rows.sectorFailsRow.domain false) (Rows.sectorFailsSpec.post enc Try.prog Try.f5 false true false false) := by
  refine law_handed (C := Try.checked) (tb := 4) own started (by kernel_rfl) Try.func5
    (ChangeSpec.witness6 (enc := enc) (C := Try.checked) false ⟨#[], #[.int .u8 0, .int .u8 0, .int .u32 0], []⟩ 8 (by kernel_rfl) (by kernel_rfl) (by kernel_rfl) (by kernel_rfl))
    rfl Try.underlying4 rfl ?_ laidOut (of_decide_eq_true (by kernel_rfl)) owed
  intro ds hl
  match ds, hl with
  | [a, b, c], _ => exact ⟨rfl, rfl, rfl⟩

theorem over : Rows.sectorFailsRow.holds Try.pinned (OpenSpec.ofChange Rows.sectorFailsSpec) :=
  OpenClaim.holds_of_wide 5 Try.f5 rfl rfl rfl rfl rfl rfl rfl ⟨rfl, rfl, rfl, rfl, rfl⟩ rfl rfl rfl rfl rfl (by kernel_rfl) Try.func5 (by kernel_rfl)
    (of_decide_eq_true (by kernel_rfl)) (by unfold Func.isWrapper; first | (rw [if_pos (by decide +kernel)]; kernel_rfl) | (rw [if_neg (by decide +kernel)]; exact ⟨rfl, rfl⟩))
    (fun os started H enc _ => lifted os started H enc)

theorem proved : Rows.SectorFailsSaid := over
end sectorFails
#print axioms sectorFails.proved
end Go.Proofs.Ytkjfhkhcoenanaa
