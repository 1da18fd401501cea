/- The statement MachineDisk. -/
import Derived.Test.YtnjenhdfeeonoaaGreatDoorCards
import Derived.Test.YtnjenhdfeeonoaaGreatDoorTie
import Derived.Test.YtnjenhdfeeonoaaGreatDoorMachDiskA
import Derived.Test.YtnjenhdfeeonoaaGreatDoorMachDiskB
import Derived.Test.YtnjenhdfeeonoaaGreatDoorMachDiskC0
import Derived.Test.YtnjenhdfeeonoaaGreatDoorMachDiskC1
import Derived.Test.YtnjenhdfeeonoaaGreatDoorMachDiskC2
import Derived.Test.YtnjenhdfeeonoaaGreatDoorMachDiskC3
import Derived.Test.YtnjenhdfeeonoaaGreatDoorMachDiskC4
namespace Go.Proofs.YtnjenhdfeeonoaaGreatDoor
open Go.RowKit Go.ChangeShapes Go.WideShapes Go.ChangeAt
set_option maxHeartbeats 4000000

namespace machineDisk
open machA machDisk
abbrev ents : List Sy.ME := [⟨[], 14, [(.ptr 13 0)], M0, 3, .ret (.tup [], M1)⟩,
  ⟨[], 14, [(.ptr 13 0)], M1, 3, .ret (.tup [], M2)⟩,
  ⟨[], 14, [(.ptr 13 0)], M2, 3, .ret (.tup [], M3)⟩,
  ⟨[], 14, [(.ptr 13 0)], M3, 3, .ret (.tup [], M4)⟩,
  ⟨[], 14, [(.ptr 13 0)], M4, 3, .ret (.tup [], M5)⟩,
  ⟨[], 14, [(.ptr 13 0)], M5, 3, .ret (.tup [], M6)⟩,
  ⟨[], 14, [(.ptr 13 0)], M6, 3, .ret (.tup [], M7)⟩,
  ⟨[], 14, [(.ptr 13 0)], M7, 3, .ret (.tup [], M8)⟩,
  ⟨[], 14, [(.ptr 13 0)], M8, 3, .br (.lt (.bin .rem .u32 (.v 0) (.c 5)) (.c 1)) (.ret (.tup [], N0_0)) (.br (.lt (.bin .rem .u32 (.v 0) (.c 5)) (.c 2)) (.ret (.tup [], N1_0)) (.br (.lt (.bin .rem .u32 (.v 0) (.c 5)) (.c 3)) (.ret (.tup [], N2_0)) (.br (.lt (.bin .rem .u32 (.v 0) (.c 5)) (.c 4)) (.ret (.tup [], N3_0)) (.ret (.tup [], N4_0)))))⟩,
  ⟨[((.lt (.bin .rem .u32 (.v 0) (.c 5)) (.c 1)), true)], 14, [(.ptr 13 0)], N0_0, 3, .ret (.tup [], N0_1)⟩,
  ⟨[((.lt (.bin .rem .u32 (.v 0) (.c 5)) (.c 1)), true)], 14, [(.ptr 13 0)], N0_1, 3, .ret (.tup [], N0_2)⟩,
  ⟨[((.lt (.bin .rem .u32 (.v 0) (.c 5)) (.c 1)), true)], 14, [(.ptr 13 0)], N0_2, 3, .ret (.tup [], N0_3)⟩,
  ⟨[((.lt (.bin .rem .u32 (.v 0) (.c 5)) (.c 2)), true), ((.lt (.bin .rem .u32 (.v 0) (.c 5)) (.c 1)), false)], 14, [(.ptr 13 0)], N1_0, 3, .ret (.tup [], N1_1)⟩,
  ⟨[((.lt (.bin .rem .u32 (.v 0) (.c 5)) (.c 2)), true), ((.lt (.bin .rem .u32 (.v 0) (.c 5)) (.c 1)), false)], 14, [(.ptr 13 0)], N1_1, 3, .ret (.tup [], N1_2)⟩,
  ⟨[((.lt (.bin .rem .u32 (.v 0) (.c 5)) (.c 2)), true), ((.lt (.bin .rem .u32 (.v 0) (.c 5)) (.c 1)), false)], 14, [(.ptr 13 0)], N1_2, 3, .ret (.tup [], N1_3)⟩,
  ⟨[((.lt (.bin .rem .u32 (.v 0) (.c 5)) (.c 3)), true), ((.lt (.bin .rem .u32 (.v 0) (.c 5)) (.c 2)), false), ((.lt (.bin .rem .u32 (.v 0) (.c 5)) (.c 1)), false)], 14, [(.ptr 13 0)], N2_0, 3, .ret (.tup [], N2_1)⟩,
  ⟨[((.lt (.bin .rem .u32 (.v 0) (.c 5)) (.c 3)), true), ((.lt (.bin .rem .u32 (.v 0) (.c 5)) (.c 2)), false), ((.lt (.bin .rem .u32 (.v 0) (.c 5)) (.c 1)), false)], 14, [(.ptr 13 0)], N2_1, 3, .ret (.tup [], N2_2)⟩,
  ⟨[((.lt (.bin .rem .u32 (.v 0) (.c 5)) (.c 3)), true), ((.lt (.bin .rem .u32 (.v 0) (.c 5)) (.c 2)), false), ((.lt (.bin .rem .u32 (.v 0) (.c 5)) (.c 1)), false)], 14, [(.ptr 13 0)], N2_2, 3, .ret (.tup [], N2_3)⟩,
  ⟨[((.lt (.bin .rem .u32 (.v 0) (.c 5)) (.c 4)), true), ((.lt (.bin .rem .u32 (.v 0) (.c 5)) (.c 3)), false), ((.lt (.bin .rem .u32 (.v 0) (.c 5)) (.c 2)), false), ((.lt (.bin .rem .u32 (.v 0) (.c 5)) (.c 1)), false)], 14, [(.ptr 13 0)], N3_0, 3, .ret (.tup [], N3_1)⟩,
  ⟨[((.lt (.bin .rem .u32 (.v 0) (.c 5)) (.c 4)), true), ((.lt (.bin .rem .u32 (.v 0) (.c 5)) (.c 3)), false), ((.lt (.bin .rem .u32 (.v 0) (.c 5)) (.c 2)), false), ((.lt (.bin .rem .u32 (.v 0) (.c 5)) (.c 1)), false)], 14, [(.ptr 13 0)], N3_1, 3, .ret (.tup [], N3_2)⟩,
  ⟨[((.lt (.bin .rem .u32 (.v 0) (.c 5)) (.c 4)), true), ((.lt (.bin .rem .u32 (.v 0) (.c 5)) (.c 3)), false), ((.lt (.bin .rem .u32 (.v 0) (.c 5)) (.c 2)), false), ((.lt (.bin .rem .u32 (.v 0) (.c 5)) (.c 1)), false)], 14, [(.ptr 13 0)], N3_2, 3, .ret (.tup [], N3_3)⟩,
  ⟨[((.lt (.bin .rem .u32 (.v 0) (.c 5)) (.c 4)), false), ((.lt (.bin .rem .u32 (.v 0) (.c 5)) (.c 3)), false), ((.lt (.bin .rem .u32 (.v 0) (.c 5)) (.c 2)), false), ((.lt (.bin .rem .u32 (.v 0) (.c 5)) (.c 1)), false)], 14, [(.ptr 13 0)], N4_0, 3, .ret (.tup [], N4_1)⟩,
  ⟨[((.lt (.bin .rem .u32 (.v 0) (.c 5)) (.c 4)), false), ((.lt (.bin .rem .u32 (.v 0) (.c 5)) (.c 3)), false), ((.lt (.bin .rem .u32 (.v 0) (.c 5)) (.c 2)), false), ((.lt (.bin .rem .u32 (.v 0) (.c 5)) (.c 1)), false)], 14, [(.ptr 13 0)], N4_1, 3, .ret (.tup [], N4_2)⟩,
  ⟨[((.lt (.bin .rem .u32 (.v 0) (.c 5)) (.c 4)), false), ((.lt (.bin .rem .u32 (.v 0) (.c 5)) (.c 3)), false), ((.lt (.bin .rem .u32 (.v 0) (.c 5)) (.c 2)), false), ((.lt (.bin .rem .u32 (.v 0) (.c 5)) (.c 1)), false)], 14, [(.ptr 13 0)], N4_2, 3, .ret (.tup [], N4_3)⟩]
theorem ents_ok (ρ : Nat → Int) (hg : Sy.Gok ρ ⟨vs, [], [], 0⟩) : ∀ e ∈ ents, Sy.EntM Tryz.prog 3 ρ e := by
  intro e he
  simp only [ents, List.mem_cons, List.not_mem_nil, or_false] at he
  rcases he with rfl | rfl | rfl | rfl | rfl | rfl | rfl | rfl | rfl | rfl | rfl | rfl | rfl | rfl | rfl | rfl | rfl | rfl | rfl | rfl | rfl | rfl | rfl | rfl
  · exact e0 ρ hg
  · exact e1 ρ hg
  · exact e2 ρ hg
  · exact e3 ρ hg
  · exact e4 ρ hg
  · exact e5 ρ hg
  · exact e6 ρ hg
  · exact e7 ρ hg
  · exact (Sy.entM_br (.lt (.bin .rem .u32 (.v 0) (.c 5)) (.c 1)) (f0_0 ρ hg) (Sy.entM_br (.lt (.bin .rem .u32 (.v 0) (.c 5)) (.c 2)) (f1_0 ρ hg) (Sy.entM_br (.lt (.bin .rem .u32 (.v 0) (.c 5)) (.c 3)) (f2_0 ρ hg) (Sy.entM_br (.lt (.bin .rem .u32 (.v 0) (.c 5)) (.c 4)) (f3_0 ρ hg) (f4_0 ρ hg)))))
  · exact f0_1 ρ hg
  · exact f0_2 ρ hg
  · exact f0_3 ρ hg
  · exact f1_1 ρ hg
  · exact f1_2 ρ hg
  · exact f1_3 ρ hg
  · exact f2_1 ρ hg
  · exact f2_2 ρ hg
  · exact f2_3 ρ hg
  · exact f3_1 ρ hg
  · exact f3_2 ρ hg
  · exact f3_3 ρ hg
  · exact f4_1 ρ hg
  · exact f4_2 ρ hg
  · exact f4_3 ρ hg
def sh : List Sy.Sh := [.i .u8, .i .u16]
theorem runT : Sy.HoldsG Tryz.prog 3 gl 4 sh [((.eq (.bin .add .u32 (.c 0) (.bin .and .u32 (.v 1) (.c 2047))) (.bin .and .u32 (.v 1) (.c 2047))), true)] := Sy.holdsG_runX (by kernel_rfl) (Sy.orH hk (Sy.hookM 3 ents)) 100000 3 gl (fun ρ hg => Sy.orH_ok (hk_ok ρ ⟨hg.vs, pnil⟩) (Sy.hookM_ok (ents_ok ρ ⟨hg.vs, pnil⟩))) (by kernel_rfl)
theorem runF : Sy.HoldsG Tryz.prog 3 gl 4 sh [((.eq (.bin .add .u32 (.c 0) (.bin .and .u32 (.v 1) (.c 2047))) (.bin .and .u32 (.v 1) (.c 2047))), false)] := by
  intro xs hx hpc
  exfalso
  have h := hpc _ _ List.mem_cons_self
  simp [Sy.B.val, Sy.E.val, Sy.EO.val] at h
theorem run0 : Sy.HoldsG Tryz.prog 3 gl 4 sh [] := Sy.holdsG_split (.eq (.bin .add .u32 (.c 0) (.bin .and .u32 (.v 1) (.c 2047))) (.bin .and .u32 (.v 1) (.c 2047))) runT runF

set_option maxRecDepth 100000 in
theorem owed : OwedT Tryz.prog 4 Tryz.f4 (laidMetH Tryz.prog Rows.machineDiskRow.laid) := by
  intro H enc W base args ds p hL hval hA
  rw [Tryz.params4] at hval hA
  obtain ⟨hl, _⟩ := trodAll_len _ _ _ _ hA
  obtain ⟨v0, v1, rfl⟩ : ∃ v0 v1, args = #[v0, v1] := by
    obtain ⟨l⟩ := args
    match l, hl with
    | [v0, v1], _ => exact ⟨v0, v1, rfl⟩
  obtain ⟨_, _, _, _, h0, r0⟩ := trodAll_head (v := v0) (vs := [v1]) hA
  obtain ⟨_, _, _, _, h1, r1⟩ := trodAll_head (v := v1) (vs := []) r0
  clear r1
  have hv0 := hval 0 5 v0 rfl rfl
  have hv1 := hval 1 42 v1 rfl rfl
  clear hval hA
  exact Sy.calls_holdsG (l := sh) [v0, v1] ⟨open_int_ok Tryz.underlying5 hv0, open_int_ok Tryz.underlying42 hv1, trivial⟩ run0 W (globs hL)

theorem own : ownKnob Tryz.prog.godebug = none := by kernel_rfl
theorem laidOut : laidOutB Tryz.prog = true := by kernel_rfl
theorem door_met (os : Os) (args : Array Value) : laidMetH Tryz.prog Rows.machineDiskRow.laid ((World.doorLaid Tryz.prog 400 os).forCall (fun _ _ => 0) ⟨#[], args, []⟩).memory :=
  laidMetH_of_parts3 (fuel := 8) (laidMet_of_run' 8 (by kernel_rfl) (by kernel_rfl)) (by kernel_rfl) (by kernel_rfl)

set_option maxRecDepth 100000 in
theorem lifted (os : Os) (started : os.Started) (H : Type) (enc : TypeId × Value → H) :
    ReturnsInHanded {} Tryz.checked os 4 .any (fun w args => (Rows.machineDiskSpec.pre enc Tryz.prog Tryz.f4 Rows.machineDiskRow.domain false w args ∧ laidMetH Tryz.prog Rows.machineDiskRow.laid w) ∧ sizedMet enc Tryz.prog Tryz.f4 (OpenSpec.ofChange Rows.machineDiskSpec) false w args)
      (Rows.machineDiskSpec.post enc Tryz.prog Tryz.f4 false true false false) := by
  refine law_tied (C := Tryz.checked) (tb := 4) own started (by kernel_rfl) Tryz.func4
    (ChangeSpec.witness_shaped (enc := enc) (C := Tryz.checked) (os := os) (X := fun w _ => laidMetH Tryz.prog Rows.machineDiskRow.laid w) false (World.doorLaid Tryz.prog 400 os) #[.int .u8 0, .int .u16 0] 8 rfl (World.shaped_of_RefB (by kernel_rfl) (by kernel_rfl)) (by kernel_rfl) (by kernel_rfl) (by kernel_rfl) (door_met os _))
    rfl Tryz.underlying4 rfl ?_ laidOut (of_decide_eq_true (by kernel_rfl)) owed
  intro ds hl
  match ds, hl with
  | [a, b], _ => exact ⟨rfl, rfl, rfl⟩

theorem over : Rows.machineDiskRow.holds Tryz.pinned (OpenSpec.ofChange Rows.machineDiskSpec) :=
  OpenClaim.holds_of_wide 4 Tryz.f4 rfl rfl rfl rfl rfl rfl rfl ⟨rfl, rfl, rfl, rfl, rfl⟩ rfl rfl rfl rfl rfl (by kernel_rfl) Tryz.func4 (by kernel_rfl)
    (of_decide_eq_true (by kernel_rfl)) (by unfold Func.isWrapper; first | (rw [if_pos (by decide +kernel)]; kernel_rfl) | (rw [if_neg (by decide +kernel)]; exact ⟨rfl, rfl⟩))
    (fun os started H enc _ => lifted os started H enc)

theorem proved : Rows.MachineDiskCardSaid :=
  Claim7.holds_tied_plain_at .later [] [.data, .data, .data] true (true, "da73f74ef6906e9c6bb75e78509967c099d565e8fd6760d355e8eb56eccb0e61") true
    over (fun _ h => by cases h) (by kernel_rfl) (fun _ h => by cases h) machineDisk_row_tie rfl ⟨rfl, rfl⟩ (by kernel_rfl) rfl
    (fun f fn hf hfn => by
      obtain rfl : f = 4 := Option.some.inj ((show Tryz.prog.funcNamed "dioptra/dioptralaw20.MachineDisk" = some 4 by kernel_rfl).symm.trans hf) |>.symm
      obtain rfl : fn = Tryz.f4 := (Option.some.inj (Tryz.func4.symm.trans hfn)).symm
      exact ⟨by kernel_rfl, fun j t ht => by
        have hall : (Tryz.f4.params.toList.all fun u => !Tryz.prog.wantsStandIn u) = true := by kernel_rfl
        have hm : t ∈ Tryz.f4.params.toList := by simpa using Array.mem_of_getElem? ht
        have h1 : Tryz.prog.wantsStandIn t = false := by simpa using List.all_eq_true.1 hall t hm
        exact h1⟩)
    (by kernel_rfl)
end machineDisk
#print axioms machineDisk.proved
end Go.Proofs.YtnjenhdfeeonoaaGreatDoor
