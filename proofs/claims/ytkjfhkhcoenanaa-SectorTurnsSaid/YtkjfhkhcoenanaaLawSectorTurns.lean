/- The statement SectorTurns. -/
import Derived.Test.YtkjfhkhcoenanaaSymN
namespace Go.Proofs.Ytkjfhkhcoenanaa
open Go.RowKit Go.ChangeShapes Go.WideShapes Go.ChangeAt
set_option maxHeartbeats 4000000

def sectorTurnsSh : List Sy.Sh := [.a [.u32, .u32, .u32, .u32, .u32, .u32, .u32, .u32, .u32, .u32, .u32, .u32, .u32, .u32, .u32, .u32], .i .u8, .i .u32]
theorem sectorTurns_run : (Sy.xcall Try.prog 100000 ⟨Sy.shB sectorTurnsSh, [], [], 0⟩ 7 (Sy.shArgs sectorTurnsSh 0) Sy.mem0).allB Sy.isTrue = true := by kernel_rfl

namespace sectorTurns
set_option maxRecDepth 100000 in
theorem owed : Owed Try.prog 7 Try.f7 := by
  intro H enc W base args ds p hval hA
  rw [Try.params7] at hval hA
  obtain ⟨hl, _⟩ := trodAll_len _ _ _ _ hA
  obtain ⟨v0, v1, v2, rfl⟩ : ∃ v0 v1 v2, args = #[v0, v1, v2] := by
    obtain ⟨l⟩ := args
    match l, hl with
    | [v0, v1, v2], _ => exact ⟨v0, v1, v2, rfl⟩
  obtain ⟨_, _, _, _, h0, r0⟩ := trodAll_head (v := v0) (vs := [v1, v2]) hA
  obtain ⟨_, _, _, _, h1, r1⟩ := trodAll_head (v := v1) (vs := [v2]) r0
  obtain ⟨_, _, _, _, h2, r2⟩ := trodAll_head (v := v2) (vs := []) r1
  clear r2
  have hv0 := hval 0 32 v0 rfl rfl
  have hv1 := hval 1 5 v1 rfl rfl
  have hv2 := hval 2 31 v2 rfl rfl
  clear hval hA
  exact Sy.calls_sh (by kernel_rfl) 100000 7 sectorTurnsSh [v0, v1, v2] ⟨open_flat (ts := [31, 31, 31, 31, 31, 31, 31, 31, 31, 31, 31, 31, 31, 31, 31, 31]) (ks := [(IntKind.u32), (IntKind.u32), (IntKind.u32), (IntKind.u32), (IntKind.u32), (IntKind.u32), (IntKind.u32), (IntKind.u32), (IntKind.u32), (IntKind.u32), (IntKind.u32), (IntKind.u32), (IntKind.u32), (IntKind.u32), (IntKind.u32), (IntKind.u32)].map some) Try.underlying32 rfl (by kernel_rfl) (by kernel_rfl) (by kernel_rfl) hv0, open_int_ok Try.underlying5 hv1, open_int_ok Try.underlying31 hv2, trivial⟩ sectorTurns_run W

theorem own : ownKnob Try.prog.godebug = none := by kernel_rfl
theorem laidOut : laidOutB Try.prog = true := by kernel_rfl

set_option maxRecDepth 100000 in
theorem lifted (os : Os) (started : os.Started) (H : Type) (enc : TypeId × Value → H) :
    ReturnsInHanded {} Try.checked os 7 .any (Rows.sectorTurnsSpec.pre6 enc Try.prog Try.f7 Rows.sectorTurnsRow.domain false) (Rows.sectorTurnsSpec.post enc Try.prog Try.f7 false true false false) := by
  refine law_handed (C := Try.checked) (tb := 4) own started (by kernel_rfl) Try.func7
    (ChangeSpec.witness6 (enc := enc) (C := Try.checked) false ⟨#[], #[.agg #[.int .u32 0, .int .u32 0, .int .u32 0, .int .u32 0, .int .u32 0, .int .u32 0, .int .u32 0, .int .u32 0, .int .u32 0, .int .u32 0, .int .u32 0, .int .u32 0, .int .u32 0, .int .u32 0, .int .u32 0, .int .u32 0], .int .u8 0, .int .u32 0], []⟩ 8 (by kernel_rfl) (by kernel_rfl) (by kernel_rfl) (by kernel_rfl))
    rfl Try.underlying4 rfl ?_ laidOut (of_decide_eq_true (by kernel_rfl)) owed
  intro ds hl
  match ds, hl with
  | [a, b, c], _ => exact ⟨rfl, rfl, rfl⟩

theorem over : Rows.sectorTurnsRow.holds Try.pinned (OpenSpec.ofChange Rows.sectorTurnsSpec) :=
  OpenClaim.holds_of_wide 7 Try.f7 rfl rfl rfl rfl rfl rfl rfl ⟨rfl, rfl, rfl, rfl, rfl⟩ rfl rfl rfl rfl rfl (by kernel_rfl) Try.func7 (by kernel_rfl)
    (of_decide_eq_true (by kernel_rfl)) (by unfold Func.isWrapper; first | (rw [if_pos (by decide +kernel)]; kernel_rfl) | (rw [if_neg (by decide +kernel)]; exact ⟨rfl, rfl⟩))
    (fun os started H enc _ => lifted os started H enc)

theorem proved : Rows.SectorTurnsSaid := over
end sectorTurns
#print axioms sectorTurns.proved
end Go.Proofs.Ytkjfhkhcoenanaa
