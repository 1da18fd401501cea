/- The statement BusBytes. -/
import Derived.Test.YtfgipnohomdcoaaSymO
namespace Go.Proofs.Ytfgipnohomdcoaa
open Go.RowKit Go.ChangeShapes Go.WideShapes Go.ChangeAt
set_option maxHeartbeats 4000000

def busBytesSh : List Sy.Sh := [.i .u32, .a [.u8, .u8, .u8, .u8], .i .u8]
theorem busBytes3 : Sy.Holds Try.prog 5 busBytesSh [((Sy.B.eq (.bin .rem .u32 (.v 5) (.c 4)) (.c 2)), false), ((Sy.B.eq (.bin .rem .u32 (.v 5) (.c 4)) (.c 1)), false), ((Sy.B.eq (.bin .rem .u32 (.v 5) (.c 4)) (.c 0)), false)] := Sy.holds_run (by kernel_rfl) 100000 (by kernel_rfl)
theorem busBytes2x : Sy.Holds Try.prog 5 busBytesSh [((Sy.B.eq (.bin .rem .u32 (.v 5) (.c 4)) (.c 2)), true), ((Sy.B.eq (.bin .rem .u32 (.v 5) (.c 4)) (.c 1)), false), ((Sy.B.eq (.bin .rem .u32 (.v 5) (.c 4)) (.c 0)), false)] := Sy.holds_run (by kernel_rfl) 100000 (by kernel_rfl)
theorem busBytes2 : Sy.Holds Try.prog 5 busBytesSh [((Sy.B.eq (.bin .rem .u32 (.v 5) (.c 4)) (.c 1)), false), ((Sy.B.eq (.bin .rem .u32 (.v 5) (.c 4)) (.c 0)), false)] := Sy.holds_split (Sy.B.eq (.bin .rem .u32 (.v 5) (.c 4)) (.c 2)) busBytes2x busBytes3
theorem busBytes1x : Sy.Holds Try.prog 5 busBytesSh [((Sy.B.eq (.bin .rem .u32 (.v 5) (.c 4)) (.c 1)), true), ((Sy.B.eq (.bin .rem .u32 (.v 5) (.c 4)) (.c 0)), false)] := Sy.holds_run (by kernel_rfl) 100000 (by kernel_rfl)
theorem busBytes1 : Sy.Holds Try.prog 5 busBytesSh [((Sy.B.eq (.bin .rem .u32 (.v 5) (.c 4)) (.c 0)), false)] := Sy.holds_split (Sy.B.eq (.bin .rem .u32 (.v 5) (.c 4)) (.c 1)) busBytes1x busBytes2
theorem busBytes0x : Sy.Holds Try.prog 5 busBytesSh [((Sy.B.eq (.bin .rem .u32 (.v 5) (.c 4)) (.c 0)), true)] := Sy.holds_run (by kernel_rfl) 100000 (by kernel_rfl)
theorem busBytes0 : Sy.Holds Try.prog 5 busBytesSh [] := Sy.holds_split (Sy.B.eq (.bin .rem .u32 (.v 5) (.c 4)) (.c 0)) busBytes0x busBytes1

namespace busBytes
set_option maxRecDepth 100000 in
theorem owed : Owed Try.prog 5 Try.f5 := by
  intro H enc W base args ds p hval hA
  rw [Try.params5] at hval hA
  obtain ⟨hl, _⟩ := trodAll_len _ _ _ _ hA
  obtain ⟨v0, v1, v2, rfl⟩ : ∃ v0 v1 v2, args = #[v0, v1, v2] := by
    obtain ⟨l⟩ := args
    match l, hl with
    | [v0, v1, v2], _ => exact ⟨v0, v1, v2, rfl⟩
  obtain ⟨_, _, _, _, h0, r0⟩ := trodAll_head (v := v0) (vs := [v1, v2]) hA
  obtain ⟨_, _, _, _, h1, r1⟩ := trodAll_head (v := v1) (vs := [v2]) r0
  obtain ⟨_, _, _, _, h2, r2⟩ := trodAll_head (v := v2) (vs := []) r1
  clear r2
  have hv0 := hval 0 22 v0 rfl rfl
  have hv1 := hval 1 52 v1 rfl rfl
  have hv2 := hval 2 5 v2 rfl rfl
  clear hval hA
  exact Sy.calls_holds (l := busBytesSh) [v0, v1, v2] ⟨open_int_ok Try.underlying22 hv0, open_flat (ts := [5, 5, 5, 5]) (ks := [(IntKind.u8), (IntKind.u8), (IntKind.u8), (IntKind.u8)].map some) Try.underlying52 rfl (by kernel_rfl) (by kernel_rfl) (by kernel_rfl) hv1, open_int_ok Try.underlying5 hv2, trivial⟩ busBytes0 W

theorem own : ownKnob Try.prog.godebug = none := by kernel_rfl
theorem laidOut : laidOutB Try.prog = true := by kernel_rfl

set_option maxRecDepth 100000 in
theorem lifted (os : Os) (started : os.Started) (H : Type) (enc : TypeId × Value → H) :
    ReturnsInHanded {} Try.checked os 5 .any (Rows.busBytesSpec.pre6 enc Try.prog Try.f5 Rows.busBytesRow.domain false) (Rows.busBytesSpec.post enc Try.prog Try.f5 false true false false) := by
  refine law_handed (C := Try.checked) (tb := 4) own started (by kernel_rfl) Try.func5
    (ChangeSpec.witness6 (enc := enc) (C := Try.checked) false ⟨#[], #[.int .u32 0, .agg #[.int .u8 0, .int .u8 0, .int .u8 0, .int .u8 0], .int .u8 0], []⟩ 8 (by kernel_rfl) (by kernel_rfl) (by kernel_rfl) (by kernel_rfl))
    rfl Try.underlying4 rfl ?_ laidOut (of_decide_eq_true (by kernel_rfl)) owed
  intro ds hl
  match ds, hl with
  | [a, b, c], _ => exact ⟨rfl, rfl, rfl⟩

theorem over : Rows.busBytesRow.holds Try.pinned (OpenSpec.ofChange Rows.busBytesSpec) :=
  OpenClaim.holds_of_wide 5 Try.f5 rfl rfl rfl rfl rfl rfl rfl ⟨rfl, rfl, rfl, rfl, rfl⟩ rfl rfl rfl rfl rfl (by kernel_rfl) Try.func5 (by kernel_rfl)
    (of_decide_eq_true (by kernel_rfl)) (by unfold Func.isWrapper; first | (rw [if_pos (by decide +kernel)]; kernel_rfl) | (rw [if_neg (by decide +kernel)]; exact ⟨rfl, rfl⟩))
    (fun os started H enc _ => lifted os started H enc)

theorem proved : Rows.BusBytesSaid := over
end busBytes
#print axioms busBytes.proved
end Go.Proofs.Ytfgipnohomdcoaa
