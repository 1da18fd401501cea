/- MachineClock: decoded words. -/
import Derived.Test.YtnjenhdfeeonoaaGreatDoorMachA
namespace Go.Proofs.YtnjenhdfeeonoaaGreatDoor
open Go.RowKit Go.ChangeShapes Go.WideShapes Go.ChangeAt
set_option maxHeartbeats 4000000

namespace machClock
open machA
theorem w33570999 (ρ : Nat → Int) : Sy.EntryOk Tryz.prog 3 gl ρ ⟨61, false, [.int .u32 (.s 33570999)], .tup [.agg [.int .i64 (.s 1), .int .i64 (.s 1), .int .i64 (.s 0), .int .i64 (.s 0), .int .u32 (.s 33570816)], .bool (.s true)]⟩ := Sy.he_run0 (by kernel_rfl) 100000 (vs := []) (pc := []) (Sy.gok0 ρ) rfl rfl (by kernel_rfl)
theorem w41507 (ρ : Nat → Int) : Sy.EntryOk Tryz.prog 3 gl ρ ⟨61, false, [.int .u32 (.s 41507)], .tup [.agg [.int .i64 (.s 18), .int .i64 (.s 0), .int .i64 (.s 1), .int .i64 (.s 0), .int .u32 (.s 4)], .bool (.s true)]⟩ := Sy.he_run0 (by kernel_rfl) 100000 (vs := []) (pc := []) (Sy.gok0 ρ) rfl rfl (by kernel_rfl)
theorem w2138147 (ρ : Nat → Int) : Sy.EntryOk Tryz.prog 3 gl ρ ⟨61, false, [.int .u32 (.s 2138147)], .tup [.agg [.int .i64 (.s 18), .int .i64 (.s 0), .int .i64 (.s 1), .int .i64 (.s 2), .int .u32 (.s 0)], .bool (.s true)]⟩ := Sy.he_run0 (by kernel_rfl) 100000 (vs := []) (pc := []) (Sy.gok0 ρ) rfl rfl (by kernel_rfl)
theorem w134218131 (ρ : Nat → Int) : Sy.EntryOk Tryz.prog 3 gl ρ ⟨61, false, [.int .u32 (.s 134218131)], .tup [.agg [.int .i64 (.s 19), .int .i64 (.s 3), .int .i64 (.s 0), .int .i64 (.s 0), .int .u32 (.s 128)], .bool (.s true)]⟩ := Sy.he_run0 (by kernel_rfl) 100000 (vs := []) (pc := []) (Sy.gok0 ρ) rfl rfl (by kernel_rfl)
theorem w809603187 (ρ : Nat → Int) : Sy.EntryOk Tryz.prog 3 gl ρ ⟨61, false, [.int .u32 (.s 809603187)], .tup [.agg [.int .i64 (.s 64), .int .i64 (.s 0), .int .i64 (.s 3), .int .i64 (.s 0), .int .u32 (.s 772)], .bool (.s true)]⟩ := Sy.he_run0 (by kernel_rfl) 100000 (vs := []) (pc := []) (Sy.gok0 ρ) rfl rfl (by kernel_rfl)
theorem w805589107 (ρ : Nat → Int) : Sy.EntryOk Tryz.prog 3 gl ρ ⟨61, false, [.int .u32 (.s 805589107)], .tup [.agg [.int .i64 (.s 67), .int .i64 (.s 0), .int .i64 (.s 8), .int .i64 (.s 0), .int .u32 (.s 768)], .bool (.s true)]⟩ := Sy.he_run0 (by kernel_rfl) 100000 (vs := []) (pc := []) (Sy.gok0 ρ) rfl rfl (by kernel_rfl)
theorem w273678451 (ρ : Nat → Int) : Sy.EntryOk Tryz.prog 3 gl ρ ⟨61, false, [.int .u32 (.s 273678451)], .tup [.agg [.int .i64 (.s 62), .int .i64 (.s 0), .int .i64 (.s 0), .int .i64 (.s 0), .int .u32 (.s 0)], .bool (.s true)]⟩ := Sy.he_run0 (by kernel_rfl) 100000 (vs := []) (pc := []) (Sy.gok0 ρ) rfl rfl (by kernel_rfl)
theorem wv (ρ : Nat → Int) (hg : Sy.Gok ρ ⟨[(0, 2047)], [], [], 0⟩) : Sy.EntryOk Tryz.prog 3 gl ρ ⟨61, false, [.int .u32 (.d (.bin .or .u32 (.bin .shl .u32 (.v 0) (.c 20)) (.c 275)))], .tup [.agg [.int .i64 (.s 19), .int .i64 (.s 2), .int .i64 (.s 0), .int .i64 (.s 0), .int .u32 (.d (.v 0))], .bool (.s true)]⟩ := Sy.he_run0S (by kernel_rfl) 100000 (.v 0) hg rfl rfl (by kernel_rfl)
abbrev vs : List (Int × Int) := [(0, 255)]
abbrev ck : Sy.E := (.bin .add .u32 (.bin .rem .u32 (.v 0) (.c 100)) (.c 20))
abbrev h2 : Sy.HE := ⟨61, false, [.int .u32 (.d (.bin .or .u32 (.bin .shl .u32 (.bin .add .u32 (.bin .rem .u32 (.v 0) (.c 100)) (.c 20)) (.c 20)) (.c 275)))], .tup [.agg [.int .i64 (.s 19), .int .i64 (.s 2), .int .i64 (.s 0), .int .i64 (.s 0), .int .u32 (.d (.bin .add .u32 (.bin .rem .u32 (.v 0) (.c 100)) (.c 20)))], .bool (.s true)]⟩
theorem w2 (ρ : Nat → Int) (hg : Sy.Gok ρ ⟨vs, [], [], 0⟩) : Sy.EntryOk Tryz.prog 3 gl ρ h2 := by
  have hr : Sy.rng ⟨vs, [], [], 0⟩ ck = some (20, 119) := by kernel_rfl
  have hin := Sy.rng_in hg _ _ hr
  refine Sy.entry_to (ρ1 := fun _ => ck.val ρ) rfl rfl rfl (wv (fun _ => ck.val ρ) ⟨fun i lo hi h => ?_, fun b t h => by cases h⟩)
  match i, h with
  | 0, h =>
    cases h
    exact ⟨by have := hin.1; simp only at this; omega, by have := hin.2; simp only at this; omega⟩
  | i + 1, h => cases h
abbrev tab : List Sy.HE := [aliveE, ⟨61, false, [.int .u32 (.s 33570999)], .tup [.agg [.int .i64 (.s 1), .int .i64 (.s 1), .int .i64 (.s 0), .int .i64 (.s 0), .int .u32 (.s 33570816)], .bool (.s true)]⟩, ⟨61, false, [.int .u32 (.s 41507)], .tup [.agg [.int .i64 (.s 18), .int .i64 (.s 0), .int .i64 (.s 1), .int .i64 (.s 0), .int .u32 (.s 4)], .bool (.s true)]⟩, ⟨61, false, [.int .u32 (.s 2138147)], .tup [.agg [.int .i64 (.s 18), .int .i64 (.s 0), .int .i64 (.s 1), .int .i64 (.s 2), .int .u32 (.s 0)], .bool (.s true)]⟩, ⟨61, false, [.int .u32 (.s 134218131)], .tup [.agg [.int .i64 (.s 19), .int .i64 (.s 3), .int .i64 (.s 0), .int .i64 (.s 0), .int .u32 (.s 128)], .bool (.s true)]⟩, ⟨61, false, [.int .u32 (.s 809603187)], .tup [.agg [.int .i64 (.s 64), .int .i64 (.s 0), .int .i64 (.s 3), .int .i64 (.s 0), .int .u32 (.s 772)], .bool (.s true)]⟩, ⟨61, false, [.int .u32 (.s 805589107)], .tup [.agg [.int .i64 (.s 67), .int .i64 (.s 0), .int .i64 (.s 8), .int .i64 (.s 0), .int .u32 (.s 768)], .bool (.s true)]⟩, ⟨61, false, [.int .u32 (.s 273678451)], .tup [.agg [.int .i64 (.s 62), .int .i64 (.s 0), .int .i64 (.s 0), .int .i64 (.s 0), .int .u32 (.s 0)], .bool (.s true)]⟩, h2]
theorem tab_ok (ρ : Nat → Int) (hg : Sy.Gok ρ ⟨vs, [], [], 0⟩) : ∀ h ∈ tab, Sy.EntryOk Tryz.prog 3 gl ρ h := by
  intro h hh
  simp only [tab, List.mem_cons, List.not_mem_nil, or_false] at hh
  rcases hh with rfl | rfl | rfl | rfl | rfl | rfl | rfl | rfl | rfl
  · exact alive ρ
  · exact w33570999 ρ
  · exact w41507 ρ
  · exact w2138147 ρ
  · exact w134218131 ρ
  · exact w809603187 ρ
  · exact w805589107 ρ
  · exact w273678451 ρ
  · exact w2 ρ hg
noncomputable abbrev hk : Sy.Hook := Sy.hookN 3 gl tab
theorem hk_ok (ρ : Nat → Int) (hg : Sy.Gok ρ ⟨vs, [], [], 0⟩) : Sy.HookOk Tryz.prog hk ρ := Sy.hookN_ok (tab_ok ρ hg)
end machClock
end Go.Proofs.YtnjenhdfeeonoaaGreatDoor
