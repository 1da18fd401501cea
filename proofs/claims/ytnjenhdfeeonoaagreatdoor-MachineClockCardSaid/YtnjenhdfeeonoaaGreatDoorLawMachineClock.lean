/- The statement MachineClock. -/
import Derived.Test.YtnjenhdfeeonoaaGreatDoorCards
import Derived.Test.YtnjenhdfeeonoaaGreatDoorTie
import Derived.Test.YtnjenhdfeeonoaaGreatDoorTopG
import Derived.Test.YtnjenhdfeeonoaaGreatDoorMachClockA
import Derived.Test.YtnjenhdfeeonoaaGreatDoorMachClockB
import Derived.Test.YtnjenhdfeeonoaaGreatDoorMachClockC
namespace Go.Proofs.YtnjenhdfeeonoaaGreatDoor
open Go.RowKit Go.ChangeShapes Go.WideShapes Go.ChangeAt
set_option maxHeartbeats 4000000

namespace machineClock
open machA machClock
abbrev ents : List Sy.ME := [⟨[], 14, [(.ptr 13 0)], M0, 3, .ret (.tup [], M1)⟩,
  ⟨[], 14, [(.ptr 13 0)], M1, 3, .ret (.tup [], M2)⟩,
  ⟨[], 14, [(.ptr 13 0)], M2, 3, .ret (.tup [], M3)⟩,
  ⟨[], 14, [(.ptr 13 0)], M3, 3, .ret (.tup [], M4)⟩,
  ⟨[], 14, [(.ptr 13 0)], M4, 3, .ret (.tup [], M5)⟩,
  ⟨[], 14, [(.ptr 13 0)], M5, 3, .ret (.tup [], M6)⟩,
  ⟨[], 14, [(.ptr 13 0)], M6, 3, .ret (.tup [], M7)⟩,
  ⟨[], 14, [(.ptr 13 0)], M7, 3, .ret (.tup [], M8)⟩,
  ⟨[((.lt (.v 1) (.c 8)), false), ((.lt (.c 118) (.v 1)), false), ((.lt (.v 1) (.bin .sub .i64 (.bin .add .u32 (.bin .rem .u32 (.v 0) (.c 100)) (.c 20)) (.c 1))), true)], 14, [(.ptr 13 0)], MW, 3, .ret (.tup [], MX)⟩]
theorem ents_ok (ρ : Nat → Int) (hg : Sy.Gok ρ ⟨vs, [], [], 0⟩) : ∀ e ∈ ents, Sy.EntM Tryz.prog 3 ρ e := by
  intro e he
  simp only [ents, List.mem_cons, List.not_mem_nil, or_false] at he
  rcases he with rfl | rfl | rfl | rfl | rfl | rfl | rfl | rfl | rfl
  · exact e0 ρ hg
  · exact e1 ρ hg
  · exact e2 ρ hg
  · exact e3 ρ hg
  · exact e4 ρ hg
  · exact e5 ρ hg
  · exact e6 ρ hg
  · exact e7 ρ hg
  · exact eW ρ hg
noncomputable abbrev hook : Sy.Hook := Sy.withVs vs (Sy.orH hk (Sy.hookM 3 ents))
theorem hook_ok : ∀ ρ, Sy.HookOk Tryz.prog hook ρ := Sy.withVs_ok (fun ρ hg => Sy.orH_ok (hk_ok ρ hg) (Sy.hookM_ok (ents_ok ρ hg)))
def loops : Nat → Option Sy.LS := fun b => match Nat.beq b 0 with
  | true => some { vars := [(.slot 7, 8, 118)], slots := [], cells := [(8, 0, some (.int .u64 (.d (.v 1)))), (13, 22, some (.int .u64 (.d (.v 1))))], gone := [], facts := [(.lt (.bin .sub .i64 (.bin .add .u32 (.bin .rem .u32 (.v 0) (.c 100)) (.c 20)) (.c 1)) (.v 1), false)], falls := (.v 1, (.bin .sub .i64 (.bin .add .u32 (.bin .rem .u32 (.v 0) (.c 100)) (.c 20)) (.c 1))), peel := 8 }
  | false => none
def specs : FuncId → Option (Nat → Option Sy.LS) := fun f => match Nat.beq f 3 with
  | true => some (fun _ => none)
  | false => match Nat.beq f 12 with
    | true => some loops
    | false => none
def sh : List Sy.Sh := [.i .u8]
theorem run0 : Sy.HoldsG Tryz.prog 3 gl 3 sh [] := Sy.holdsG_top (by kernel_rfl) hook hook_ok 100000 2 3 gl specs (by kernel_rfl)

set_option maxRecDepth 100000 in
theorem owed : OwedT Tryz.prog 3 Tryz.f3 (laidMetH Tryz.prog Rows.machineClockRow.laid) := by
  intro H enc W base args ds p hL hval hA
  rw [Tryz.params3] at hval hA
  obtain ⟨hl, _⟩ := trodAll_len _ _ _ _ hA
  obtain ⟨v0, rfl⟩ : ∃ v0, args = #[v0] := by
    obtain ⟨l⟩ := args
    match l, hl with
    | [v0], _ => exact ⟨v0, rfl⟩
  obtain ⟨_, _, _, _, h0, r0⟩ := trodAll_head (v := v0) (vs := []) hA
  clear r0
  have hv0 := hval 0 5 v0 rfl rfl
  clear hval hA
  exact Sy.calls_holdsG (l := sh) [v0] ⟨open_int_ok Tryz.underlying5 hv0, trivial⟩ run0 W (globs hL)

theorem own : ownKnob Tryz.prog.godebug = none := by kernel_rfl
theorem laidOut : laidOutB Tryz.prog = true := by kernel_rfl
theorem door_met (os : Os) (args : Array Value) : laidMetH Tryz.prog Rows.machineClockRow.laid ((World.doorLaid Tryz.prog 400 os).forCall (fun _ _ => 0) ⟨#[], args, []⟩).memory :=
  laidMetH_of_parts3 (fuel := 8) (laidMet_of_run' 8 (by kernel_rfl) (by kernel_rfl)) (by kernel_rfl) (by kernel_rfl)

set_option maxRecDepth 100000 in
theorem lifted (os : Os) (started : os.Started) (H : Type) (enc : TypeId × Value → H) :
    ReturnsInHanded {} Tryz.checked os 3 .any (fun w args => (Rows.machineClockSpec.pre enc Tryz.prog Tryz.f3 Rows.machineClockRow.domain false w args ∧ laidMetH Tryz.prog Rows.machineClockRow.laid w) ∧ sizedMet enc Tryz.prog Tryz.f3 (OpenSpec.ofChange Rows.machineClockSpec) false w args)
      (Rows.machineClockSpec.post enc Tryz.prog Tryz.f3 false true false false) := by
  refine law_tied (C := Tryz.checked) (tb := 4) own started (by kernel_rfl) Tryz.func3
    (ChangeSpec.witness_shaped (enc := enc) (C := Tryz.checked) (os := os) (X := fun w _ => laidMetH Tryz.prog Rows.machineClockRow.laid w) false (World.doorLaid Tryz.prog 400 os) #[.int .u8 0] 8 rfl (World.shaped_of_RefB (by kernel_rfl) (by kernel_rfl)) (by kernel_rfl) (by kernel_rfl) (by kernel_rfl) (door_met os _))
    rfl Tryz.underlying4 rfl ?_ laidOut (of_decide_eq_true (by kernel_rfl)) owed
  intro ds hl
  match ds, hl with
  | [a], _ => exact ⟨rfl, rfl, rfl⟩

theorem over : Rows.machineClockRow.holds Tryz.pinned (OpenSpec.ofChange Rows.machineClockSpec) :=
  OpenClaim.holds_of_wide 3 Tryz.f3 rfl rfl rfl rfl rfl rfl rfl ⟨rfl, rfl, rfl, rfl, rfl⟩ rfl rfl rfl rfl rfl (by kernel_rfl) Tryz.func3 (by kernel_rfl)
    (of_decide_eq_true (by kernel_rfl)) (by unfold Func.isWrapper; first | (rw [if_pos (by decide +kernel)]; kernel_rfl) | (rw [if_neg (by decide +kernel)]; exact ⟨rfl, rfl⟩))
    (fun os started H enc _ => lifted os started H enc)

theorem proved : Rows.MachineClockCardSaid :=
  Claim7.holds_tied_plain_at .later [] [.data, .data, .data] true (true, "da73f74ef6906e9c6bb75e78509967c099d565e8fd6760d355e8eb56eccb0e61") true
    over (fun _ h => by cases h) (by kernel_rfl) (fun _ h => by cases h) machineClock_row_tie rfl ⟨rfl, rfl⟩ (by kernel_rfl) rfl
    (fun f fn hf hfn => by
      obtain rfl : f = 3 := Option.some.inj ((show Tryz.prog.funcNamed "dioptra/dioptralaw20.MachineClock" = some 3 by kernel_rfl).symm.trans hf) |>.symm
      obtain rfl : fn = Tryz.f3 := (Option.some.inj (Tryz.func3.symm.trans hfn)).symm
      exact ⟨by kernel_rfl, fun j t ht => by
        have hall : (Tryz.f3.params.toList.all fun u => !Tryz.prog.wantsStandIn u) = true := by kernel_rfl
        have hm : t ∈ Tryz.f3.params.toList := by simpa using Array.mem_of_getElem? ht
        have h1 : Tryz.prog.wantsStandIn t = false := by simpa using List.all_eq_true.1 hall t hm
        exact h1⟩)
    (by kernel_rfl)
end machineClock
#print axioms machineClock.proved
end Go.Proofs.YtnjenhdfeeonoaaGreatDoor
