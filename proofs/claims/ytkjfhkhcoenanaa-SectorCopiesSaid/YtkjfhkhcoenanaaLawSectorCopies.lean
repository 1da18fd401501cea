/- The statement SectorCopies. -/
import Derived.Test.YtkjfhkhcoenanaaSymO
namespace Go.Proofs.Ytkjfhkhcoenanaa
open Go.RowKit Go.ChangeShapes Go.WideShapes Go.ChangeAt
set_option maxHeartbeats 4000000

def sectorCopiesSh : List Sy.Sh := [.a [.u32, .u32, .u32, .u32, .u32, .u32, .u32, .u32, .u32, .u32, .u32, .u32, .u32, .u32, .u32, .u32, .u32, .u32, .u32, .u32, .u32, .u32, .u32, .u32, .u32, .u32, .u32, .u32, .u32, .u32, .u32, .u32, .u8, .u8, .u8]]
theorem copies0xa : Sy.Holds Try.prog 8 sectorCopiesSh [((Sy.B.lt (.bin .rem .i64 (.v 32) (.c 8)) (.c 2)), true), ((Sy.B.eq (.bin .rem .i64 (.v 34) (.c 4)) (.c 0)), true)] := Sy.holds_run (by kernel_rfl) 100000 (by kernel_rfl)
theorem copies0xba : Sy.Holds Try.prog 8 sectorCopiesSh [((Sy.B.lt (.bin .rem .i64 (.v 32) (.c 8)) (.c 4)), true), ((Sy.B.lt (.bin .rem .i64 (.v 32) (.c 8)) (.c 2)), false), ((Sy.B.eq (.bin .rem .i64 (.v 34) (.c 4)) (.c 0)), true)] := Sy.holds_run (by kernel_rfl) 100000 (by kernel_rfl)
theorem copies0xbba : Sy.Holds Try.prog 8 sectorCopiesSh [((Sy.B.lt (.bin .rem .i64 (.v 32) (.c 8)) (.c 6)), true), ((Sy.B.lt (.bin .rem .i64 (.v 32) (.c 8)) (.c 4)), false), ((Sy.B.lt (.bin .rem .i64 (.v 32) (.c 8)) (.c 2)), false), ((Sy.B.eq (.bin .rem .i64 (.v 34) (.c 4)) (.c 0)), true)] := Sy.holds_run (by kernel_rfl) 100000 (by kernel_rfl)
theorem copies0xbbb : Sy.Holds Try.prog 8 sectorCopiesSh [((Sy.B.lt (.bin .rem .i64 (.v 32) (.c 8)) (.c 6)), false), ((Sy.B.lt (.bin .rem .i64 (.v 32) (.c 8)) (.c 4)), false), ((Sy.B.lt (.bin .rem .i64 (.v 32) (.c 8)) (.c 2)), false), ((Sy.B.eq (.bin .rem .i64 (.v 34) (.c 4)) (.c 0)), true)] := Sy.holds_run (by kernel_rfl) 100000 (by kernel_rfl)
theorem copies0xbb : Sy.Holds Try.prog 8 sectorCopiesSh [((Sy.B.lt (.bin .rem .i64 (.v 32) (.c 8)) (.c 4)), false), ((Sy.B.lt (.bin .rem .i64 (.v 32) (.c 8)) (.c 2)), false), ((Sy.B.eq (.bin .rem .i64 (.v 34) (.c 4)) (.c 0)), true)] := Sy.holds_split (Sy.B.lt (.bin .rem .i64 (.v 32) (.c 8)) (.c 6)) copies0xbba copies0xbbb
theorem copies0xb : Sy.Holds Try.prog 8 sectorCopiesSh [((Sy.B.lt (.bin .rem .i64 (.v 32) (.c 8)) (.c 2)), false), ((Sy.B.eq (.bin .rem .i64 (.v 34) (.c 4)) (.c 0)), true)] := Sy.holds_split (Sy.B.lt (.bin .rem .i64 (.v 32) (.c 8)) (.c 4)) copies0xba copies0xbb
theorem copies0x : Sy.Holds Try.prog 8 sectorCopiesSh [((Sy.B.eq (.bin .rem .i64 (.v 34) (.c 4)) (.c 0)), true)] := Sy.holds_split (Sy.B.lt (.bin .rem .i64 (.v 32) (.c 8)) (.c 2)) copies0xa copies0xb
theorem copies1xa : Sy.Holds Try.prog 8 sectorCopiesSh [((Sy.B.lt (.bin .rem .i64 (.v 32) (.c 7)) (.c 2)), true), ((Sy.B.eq (.bin .rem .i64 (.v 34) (.c 4)) (.c 1)), true), ((Sy.B.eq (.bin .rem .i64 (.v 34) (.c 4)) (.c 0)), false)] := Sy.holds_run (by kernel_rfl) 100000 (by kernel_rfl)
theorem copies1xba : Sy.Holds Try.prog 8 sectorCopiesSh [((Sy.B.lt (.bin .rem .i64 (.v 32) (.c 7)) (.c 4)), true), ((Sy.B.lt (.bin .rem .i64 (.v 32) (.c 7)) (.c 2)), false), ((Sy.B.eq (.bin .rem .i64 (.v 34) (.c 4)) (.c 1)), true), ((Sy.B.eq (.bin .rem .i64 (.v 34) (.c 4)) (.c 0)), false)] := Sy.holds_run (by kernel_rfl) 100000 (by kernel_rfl)
theorem copies1xbba : Sy.Holds Try.prog 8 sectorCopiesSh [((Sy.B.lt (.bin .rem .i64 (.v 32) (.c 7)) (.c 6)), true), ((Sy.B.lt (.bin .rem .i64 (.v 32) (.c 7)) (.c 4)), false), ((Sy.B.lt (.bin .rem .i64 (.v 32) (.c 7)) (.c 2)), false), ((Sy.B.eq (.bin .rem .i64 (.v 34) (.c 4)) (.c 1)), true), ((Sy.B.eq (.bin .rem .i64 (.v 34) (.c 4)) (.c 0)), false)] := Sy.holds_run (by kernel_rfl) 100000 (by kernel_rfl)
theorem copies1xbbb : Sy.Holds Try.prog 8 sectorCopiesSh [((Sy.B.lt (.bin .rem .i64 (.v 32) (.c 7)) (.c 6)), false), ((Sy.B.lt (.bin .rem .i64 (.v 32) (.c 7)) (.c 4)), false), ((Sy.B.lt (.bin .rem .i64 (.v 32) (.c 7)) (.c 2)), false), ((Sy.B.eq (.bin .rem .i64 (.v 34) (.c 4)) (.c 1)), true), ((Sy.B.eq (.bin .rem .i64 (.v 34) (.c 4)) (.c 0)), false)] := Sy.holds_run (by kernel_rfl) 100000 (by kernel_rfl)
theorem copies1xbb : Sy.Holds Try.prog 8 sectorCopiesSh [((Sy.B.lt (.bin .rem .i64 (.v 32) (.c 7)) (.c 4)), false), ((Sy.B.lt (.bin .rem .i64 (.v 32) (.c 7)) (.c 2)), false), ((Sy.B.eq (.bin .rem .i64 (.v 34) (.c 4)) (.c 1)), true), ((Sy.B.eq (.bin .rem .i64 (.v 34) (.c 4)) (.c 0)), false)] := Sy.holds_split (Sy.B.lt (.bin .rem .i64 (.v 32) (.c 7)) (.c 6)) copies1xbba copies1xbbb
theorem copies1xb : Sy.Holds Try.prog 8 sectorCopiesSh [((Sy.B.lt (.bin .rem .i64 (.v 32) (.c 7)) (.c 2)), false), ((Sy.B.eq (.bin .rem .i64 (.v 34) (.c 4)) (.c 1)), true), ((Sy.B.eq (.bin .rem .i64 (.v 34) (.c 4)) (.c 0)), false)] := Sy.holds_split (Sy.B.lt (.bin .rem .i64 (.v 32) (.c 7)) (.c 4)) copies1xba copies1xbb
theorem copies1x : Sy.Holds Try.prog 8 sectorCopiesSh [((Sy.B.eq (.bin .rem .i64 (.v 34) (.c 4)) (.c 1)), true), ((Sy.B.eq (.bin .rem .i64 (.v 34) (.c 4)) (.c 0)), false)] := Sy.holds_split (Sy.B.lt (.bin .rem .i64 (.v 32) (.c 7)) (.c 2)) copies1xa copies1xb
theorem copies2xa : Sy.Holds Try.prog 8 sectorCopiesSh [((Sy.B.lt (.bin .rem .i64 (.v 32) (.c 6)) (.c 3)), true), ((Sy.B.eq (.bin .rem .i64 (.v 34) (.c 4)) (.c 2)), true), ((Sy.B.eq (.bin .rem .i64 (.v 34) (.c 4)) (.c 1)), false), ((Sy.B.eq (.bin .rem .i64 (.v 34) (.c 4)) (.c 0)), false)] := Sy.holds_run (by kernel_rfl) 100000 (by kernel_rfl)
theorem copies2xb : Sy.Holds Try.prog 8 sectorCopiesSh [((Sy.B.lt (.bin .rem .i64 (.v 32) (.c 6)) (.c 3)), false), ((Sy.B.eq (.bin .rem .i64 (.v 34) (.c 4)) (.c 2)), true), ((Sy.B.eq (.bin .rem .i64 (.v 34) (.c 4)) (.c 1)), false), ((Sy.B.eq (.bin .rem .i64 (.v 34) (.c 4)) (.c 0)), false)] := Sy.holds_run (by kernel_rfl) 100000 (by kernel_rfl)
theorem copies2x : Sy.Holds Try.prog 8 sectorCopiesSh [((Sy.B.eq (.bin .rem .i64 (.v 34) (.c 4)) (.c 2)), true), ((Sy.B.eq (.bin .rem .i64 (.v 34) (.c 4)) (.c 1)), false), ((Sy.B.eq (.bin .rem .i64 (.v 34) (.c 4)) (.c 0)), false)] := Sy.holds_split (Sy.B.lt (.bin .rem .i64 (.v 32) (.c 6)) (.c 3)) copies2xa copies2xb
theorem copies3 : Sy.Holds Try.prog 8 sectorCopiesSh [((Sy.B.eq (.bin .rem .i64 (.v 34) (.c 4)) (.c 2)), false), ((Sy.B.eq (.bin .rem .i64 (.v 34) (.c 4)) (.c 1)), false), ((Sy.B.eq (.bin .rem .i64 (.v 34) (.c 4)) (.c 0)), false)] := Sy.holds_run (by kernel_rfl) 100000 (by kernel_rfl)
theorem copies2 : Sy.Holds Try.prog 8 sectorCopiesSh [((Sy.B.eq (.bin .rem .i64 (.v 34) (.c 4)) (.c 1)), false), ((Sy.B.eq (.bin .rem .i64 (.v 34) (.c 4)) (.c 0)), false)] := Sy.holds_split (Sy.B.eq (.bin .rem .i64 (.v 34) (.c 4)) (.c 2)) copies2x copies3
theorem copies1 : Sy.Holds Try.prog 8 sectorCopiesSh [((Sy.B.eq (.bin .rem .i64 (.v 34) (.c 4)) (.c 0)), false)] := Sy.holds_split (Sy.B.eq (.bin .rem .i64 (.v 34) (.c 4)) (.c 1)) copies1x copies2
theorem copies0 : Sy.Holds Try.prog 8 sectorCopiesSh [] := Sy.holds_split (Sy.B.eq (.bin .rem .i64 (.v 34) (.c 4)) (.c 0)) copies0x copies1

namespace sectorCopies
set_option maxRecDepth 100000 in
theorem owed : Owed Try.prog 8 Try.f8 := by
  intro H enc W base args ds p hval hA
  rw [Try.params8] at hval hA
  obtain ⟨hl, _⟩ := trodAll_len _ _ _ _ hA
  obtain ⟨v0, rfl⟩ : ∃ v0, args = #[v0] := by
    obtain ⟨l⟩ := args
    match l, hl with
    | [v0], _ => exact ⟨v0, rfl⟩
  obtain ⟨_, _, _, _, h0, r0⟩ := trodAll_head (v := v0) (vs := []) hA
  clear r0
  have hv0 := hval 0 58 v0 rfl rfl
  clear hval hA
  exact Sy.calls_holds (l := sectorCopiesSh) [v0] ⟨open_flat (ts := [31, 31, 31, 31, 31, 31, 31, 31, 31, 31, 31, 31, 31, 31, 31, 31, 31, 31, 31, 31, 31, 31, 31, 31, 31, 31, 31, 31, 31, 31, 31, 31, 5, 5, 5]) (ks := [(IntKind.u32), (IntKind.u32), (IntKind.u32), (IntKind.u32), (IntKind.u32), (IntKind.u32), (IntKind.u32), (IntKind.u32), (IntKind.u32), (IntKind.u32), (IntKind.u32), (IntKind.u32), (IntKind.u32), (IntKind.u32), (IntKind.u32), (IntKind.u32), (IntKind.u32), (IntKind.u32), (IntKind.u32), (IntKind.u32), (IntKind.u32), (IntKind.u32), (IntKind.u32), (IntKind.u32), (IntKind.u32), (IntKind.u32), (IntKind.u32), (IntKind.u32), (IntKind.u32), (IntKind.u32), (IntKind.u32), (IntKind.u32), (IntKind.u8), (IntKind.u8), (IntKind.u8)].map some) Try.underlying58 rfl (by kernel_rfl) (by kernel_rfl) (by kernel_rfl) hv0, trivial⟩ copies0 W

theorem own : ownKnob Try.prog.godebug = none := by kernel_rfl
theorem laidOut : laidOutB Try.prog = true := by kernel_rfl

set_option maxRecDepth 100000 in
theorem lifted (os : Os) (started : os.Started) (H : Type) (enc : TypeId × Value → H) :
    ReturnsInHanded {} Try.checked os 8 .any (Rows.sectorCopiesSpec.pre6 enc Try.prog Try.f8 Rows.sectorCopiesRow.domain false) (Rows.sectorCopiesSpec.post enc Try.prog Try.f8 false true false false) := by
  refine law_handed (C := Try.checked) (tb := 4) own started (by kernel_rfl) Try.func8
    (ChangeSpec.witness6 (enc := enc) (C := Try.checked) false ⟨#[], #[.agg #[.int .u32 0, .int .u32 0, .int .u32 0, .int .u32 0, .int .u32 0, .int .u32 0, .int .u32 0, .int .u32 0, .int .u32 0, .int .u32 0, .int .u32 0, .int .u32 0, .int .u32 0, .int .u32 0, .int .u32 0, .int .u32 0, .int .u32 0, .int .u32 0, .int .u32 0, .int .u32 0, .int .u32 0, .int .u32 0, .int .u32 0, .int .u32 0, .int .u32 0, .int .u32 0, .int .u32 0, .int .u32 0, .int .u32 0, .int .u32 0, .int .u32 0, .int .u32 0, .int .u8 0, .int .u8 0, .int .u8 0]], []⟩ 8 (by kernel_rfl) (by kernel_rfl) (by kernel_rfl) (by kernel_rfl))
    rfl Try.underlying4 rfl ?_ laidOut (of_decide_eq_true (by kernel_rfl)) owed
  intro ds hl
  match ds, hl with
  | [a], _ => exact ⟨rfl, rfl, rfl⟩

theorem over : Rows.sectorCopiesRow.holds Try.pinned (OpenSpec.ofChange Rows.sectorCopiesSpec) :=
  OpenClaim.holds_of_wide 8 Try.f8 rfl rfl rfl rfl rfl rfl rfl ⟨rfl, rfl, rfl, rfl, rfl⟩ rfl rfl rfl rfl rfl (by kernel_rfl) Try.func8 (by kernel_rfl)
    (of_decide_eq_true (by kernel_rfl)) (by unfold Func.isWrapper; first | (rw [if_pos (by decide +kernel)]; kernel_rfl) | (rw [if_neg (by decide +kernel)]; exact ⟨rfl, rfl⟩))
    (fun os started H enc _ => lifted os started H enc)

theorem proved : Rows.SectorCopiesSaid := over
end sectorCopies
#print axioms sectorCopies.proved
end Go.Proofs.Ytkjfhkhcoenanaa
