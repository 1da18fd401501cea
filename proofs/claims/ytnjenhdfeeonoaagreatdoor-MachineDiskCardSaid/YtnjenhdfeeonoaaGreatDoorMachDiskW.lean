/- MachineDisk: decoded words. -/
import Derived.Test.YtnjenhdfeeonoaaGreatDoorMachA
namespace Go.Proofs.YtnjenhdfeeonoaaGreatDoor
open Go.RowKit Go.ChangeShapes Go.WideShapes Go.ChangeAt
set_option maxHeartbeats 4000000

namespace machDisk
open machA
theorem w268439735 (ρ : Nat → Int) : Sy.EntryOk Tryz.prog 3 gl ρ ⟨61, false, [.int .u32 (.s 268439735)], .tup [.agg [.int .i64 (.s 1), .int .i64 (.s 1), .int .i64 (.s 0), .int .i64 (.s 0), .int .u32 (.s 268439552)], .bool (.s true)]⟩ := Sy.he_run0 (by kernel_rfl) 100000 (vs := []) (pc := []) (Sy.gok0 ρ) rfl rfl (by kernel_rfl)
theorem w1048851 (ρ : Nat → Int) : Sy.EntryOk Tryz.prog 3 gl ρ ⟨61, false, [.int .u32 (.s 1048851)], .tup [.agg [.int .i64 (.s 19), .int .i64 (.s 2), .int .i64 (.s 0), .int .i64 (.s 0), .int .u32 (.s 1)], .bool (.s true)]⟩ := Sy.he_run0 (by kernel_rfl) 100000 (vs := []) (pc := []) (Sy.gok0 ρ) rfl rfl (by kernel_rfl)
theorem w2139171 (ρ : Nat → Int) : Sy.EntryOk Tryz.prog 3 gl ρ ⟨61, false, [.int .u32 (.s 2139171)], .tup [.agg [.int .i64 (.s 18), .int .i64 (.s 0), .int .i64 (.s 1), .int .i64 (.s 2), .int .u32 (.s 8)], .bool (.s true)]⟩ := Sy.he_run0 (by kernel_rfl) 100000 (vs := []) (pc := []) (Sy.gok0 ρ) rfl rfl (by kernel_rfl)
theorem w3187235 (ρ : Nat → Int) : Sy.EntryOk Tryz.prog 3 gl ρ ⟨61, false, [.int .u32 (.s 3187235)], .tup [.agg [.int .i64 (.s 18), .int .i64 (.s 0), .int .i64 (.s 1), .int .i64 (.s 3), .int .u32 (.s 4)], .bool (.s true)]⟩ := Sy.he_run0 (by kernel_rfl) 100000 (vs := []) (pc := []) (Sy.gok0 ρ) rfl rfl (by kernel_rfl)
theorem w4237859 (ρ : Nat → Int) : Sy.EntryOk Tryz.prog 3 gl ρ ⟨61, false, [.int .u32 (.s 4237859)], .tup [.agg [.int .i64 (.s 18), .int .i64 (.s 0), .int .i64 (.s 1), .int .i64 (.s 4), .int .u32 (.s 20)], .bool (.s true)]⟩ := Sy.he_run0 (by kernel_rfl) 100000 (vs := []) (pc := []) (Sy.gok0 ρ) rfl rfl (by kernel_rfl)
theorem w2097811 (ρ : Nat → Int) : Sy.EntryOk Tryz.prog 3 gl ρ ⟨61, false, [.int .u32 (.s 2097811)], .tup [.agg [.int .i64 (.s 19), .int .i64 (.s 5), .int .i64 (.s 0), .int .i64 (.s 0), .int .u32 (.s 2)], .bool (.s true)]⟩ := Sy.he_run0 (by kernel_rfl) 100000 (vs := []) (pc := []) (Sy.gok0 ρ) rfl rfl (by kernel_rfl)
theorem w5283875 (ρ : Nat → Int) : Sy.EntryOk Tryz.prog 3 gl ρ ⟨61, false, [.int .u32 (.s 5283875)], .tup [.agg [.int .i64 (.s 18), .int .i64 (.s 0), .int .i64 (.s 1), .int .i64 (.s 5), .int .u32 (.s 0)], .bool (.s true)]⟩ := Sy.he_run0 (by kernel_rfl) 100000 (vs := []) (pc := []) (Sy.gok0 ρ) rfl rfl (by kernel_rfl)
theorem w2138147 (ρ : Nat → Int) : Sy.EntryOk Tryz.prog 3 gl ρ ⟨61, false, [.int .u32 (.s 2138147)], .tup [.agg [.int .i64 (.s 18), .int .i64 (.s 0), .int .i64 (.s 1), .int .i64 (.s 2), .int .u32 (.s 0)], .bool (.s true)]⟩ := Sy.he_run0 (by kernel_rfl) 100000 (vs := []) (pc := []) (Sy.gok0 ρ) rfl rfl (by kernel_rfl)
theorem w21013251 (ρ : Nat → Int) : Sy.EntryOk Tryz.prog 3 gl ρ ⟨61, false, [.int .u32 (.s 21013251)], .tup [.agg [.int .i64 (.s 13), .int .i64 (.s 6), .int .i64 (.s 1), .int .i64 (.s 0), .int .u32 (.s 20)], .bool (.s true)]⟩ := Sy.he_run0 (by kernel_rfl) 100000 (vs := []) (pc := []) (Sy.gok0 ρ) rfl rfl (by kernel_rfl)
theorem w16819075 (ρ : Nat → Int) : Sy.EntryOk Tryz.prog 3 gl ρ ⟨61, false, [.int .u32 (.s 16819075)], .tup [.agg [.int .i64 (.s 13), .int .i64 (.s 7), .int .i64 (.s 1), .int .i64 (.s 0), .int .u32 (.s 16)], .bool (.s true)]⟩ := Sy.he_run0 (by kernel_rfl) 100000 (vs := []) (pc := []) (Sy.gok0 ρ) rfl rfl (by kernel_rfl)
abbrev vs : List (Int × Int) := [(0, 255), (0, 65535)]
abbrev h6 : Sy.HE := ⟨61, false, [.int .u32 (.d (.bin .or .u32 (.bin .shl .u32 (.bin .and .u32 (.v 1) (.c 2047)) (.c 20)) (.c 531)))], .tup [.agg [.int .i64 (.s 19), .int .i64 (.s 4), .int .i64 (.s 0), .int .i64 (.s 0), .int .u32 (.d (.bin .and .u32 (.v 1) (.c 2047)))], .bool (.s true)]⟩
abbrev h4 : Sy.HE := ⟨61, false, [.int .u32 (.d (.bin .or .u32 (.bin .shl .u32 (.bin .rem .u32 (.v 0) (.c 5)) (.c 20)) (.c 403)))], .tup [.agg [.int .i64 (.s 19), .int .i64 (.s 3), .int .i64 (.s 0), .int .i64 (.s 0), .int .u32 (.d (.bin .rem .u32 (.v 0) (.c 5)))], .bool (.s true)]⟩
theorem w6 (ρ : Nat → Int) (hg : Sy.Gok ρ ⟨vs, [], [], 0⟩) : Sy.EntryOk Tryz.prog 3 gl ρ h6 := Sy.he_run0S (by kernel_rfl) 100000 (.bin .and .u32 (.v 1) (.c 2047)) hg rfl rfl (by kernel_rfl)
theorem w4_0 (ρ : Nat → Int) (hg : Sy.Gok ρ ⟨vs, [((.lt (.bin .rem .u32 (.v 0) (.c 5)) (.c 1)), true)], [], 0⟩) : Sy.EntryOk Tryz.prog 3 gl ρ h4 := Sy.he_run0S (by kernel_rfl) 100000 (.bin .rem .u32 (.v 0) (.c 5)) hg rfl rfl (by kernel_rfl)
theorem w4_1 (ρ : Nat → Int) (hg : Sy.Gok ρ ⟨vs, [((.lt (.bin .rem .u32 (.v 0) (.c 5)) (.c 2)), true), ((.lt (.bin .rem .u32 (.v 0) (.c 5)) (.c 1)), false)], [], 0⟩) : Sy.EntryOk Tryz.prog 3 gl ρ h4 := Sy.he_run0S (by kernel_rfl) 100000 (.bin .rem .u32 (.v 0) (.c 5)) hg rfl rfl (by kernel_rfl)
theorem w4_2 (ρ : Nat → Int) (hg : Sy.Gok ρ ⟨vs, [((.lt (.bin .rem .u32 (.v 0) (.c 5)) (.c 3)), true), ((.lt (.bin .rem .u32 (.v 0) (.c 5)) (.c 2)), false), ((.lt (.bin .rem .u32 (.v 0) (.c 5)) (.c 1)), false)], [], 0⟩) : Sy.EntryOk Tryz.prog 3 gl ρ h4 := Sy.he_run0S (by kernel_rfl) 100000 (.bin .rem .u32 (.v 0) (.c 5)) hg rfl rfl (by kernel_rfl)
theorem w4_3 (ρ : Nat → Int) (hg : Sy.Gok ρ ⟨vs, [((.lt (.bin .rem .u32 (.v 0) (.c 5)) (.c 4)), true), ((.lt (.bin .rem .u32 (.v 0) (.c 5)) (.c 3)), false), ((.lt (.bin .rem .u32 (.v 0) (.c 5)) (.c 2)), false), ((.lt (.bin .rem .u32 (.v 0) (.c 5)) (.c 1)), false)], [], 0⟩) : Sy.EntryOk Tryz.prog 3 gl ρ h4 := Sy.he_run0S (by kernel_rfl) 100000 (.bin .rem .u32 (.v 0) (.c 5)) hg rfl rfl (by kernel_rfl)
theorem w4_4 (ρ : Nat → Int) (hg : Sy.Gok ρ ⟨vs, [((.lt (.bin .rem .u32 (.v 0) (.c 5)) (.c 4)), false), ((.lt (.bin .rem .u32 (.v 0) (.c 5)) (.c 3)), false), ((.lt (.bin .rem .u32 (.v 0) (.c 5)) (.c 2)), false), ((.lt (.bin .rem .u32 (.v 0) (.c 5)) (.c 1)), false)], [], 0⟩) : Sy.EntryOk Tryz.prog 3 gl ρ h4 := Sy.he_run0S (by kernel_rfl) 100000 (.bin .rem .u32 (.v 0) (.c 5)) hg rfl rfl (by kernel_rfl)
theorem w4 (ρ : Nat → Int) (hg : Sy.Gok ρ ⟨vs, [], [], 0⟩) : Sy.EntryOk Tryz.prog 3 gl ρ h4 := by
  cases h1 : (Sy.B.lt (.bin .rem .u32 (.v 0) (.c 5)) (.c 1)).val ρ with
  | true => exact w4_0 ρ (Sy.gok_more' hg (pcons h1 pnil))
  | false =>
    cases h2 : (Sy.B.lt (.bin .rem .u32 (.v 0) (.c 5)) (.c 2)).val ρ with
    | true => exact w4_1 ρ (Sy.gok_more' hg (pcons h2 (pcons h1 pnil)))
    | false =>
      cases h3 : (Sy.B.lt (.bin .rem .u32 (.v 0) (.c 5)) (.c 3)).val ρ with
      | true => exact w4_2 ρ (Sy.gok_more' hg (pcons h3 (pcons h2 (pcons h1 pnil))))
      | false =>
        cases h4 : (Sy.B.lt (.bin .rem .u32 (.v 0) (.c 5)) (.c 4)).val ρ with
        | true => exact w4_3 ρ (Sy.gok_more' hg (pcons h4 (pcons h3 (pcons h2 (pcons h1 pnil)))))
        | false =>
          exact w4_4 ρ (Sy.gok_more' hg (pcons h4 (pcons h3 (pcons h2 (pcons h1 pnil)))))
abbrev tab : List Sy.HE := [aliveE, ⟨61, false, [.int .u32 (.s 268439735)], .tup [.agg [.int .i64 (.s 1), .int .i64 (.s 1), .int .i64 (.s 0), .int .i64 (.s 0), .int .u32 (.s 268439552)], .bool (.s true)]⟩, ⟨61, false, [.int .u32 (.s 1048851)], .tup [.agg [.int .i64 (.s 19), .int .i64 (.s 2), .int .i64 (.s 0), .int .i64 (.s 0), .int .u32 (.s 1)], .bool (.s true)]⟩, ⟨61, false, [.int .u32 (.s 2139171)], .tup [.agg [.int .i64 (.s 18), .int .i64 (.s 0), .int .i64 (.s 1), .int .i64 (.s 2), .int .u32 (.s 8)], .bool (.s true)]⟩, ⟨61, false, [.int .u32 (.s 3187235)], .tup [.agg [.int .i64 (.s 18), .int .i64 (.s 0), .int .i64 (.s 1), .int .i64 (.s 3), .int .u32 (.s 4)], .bool (.s true)]⟩, ⟨61, false, [.int .u32 (.s 4237859)], .tup [.agg [.int .i64 (.s 18), .int .i64 (.s 0), .int .i64 (.s 1), .int .i64 (.s 4), .int .u32 (.s 20)], .bool (.s true)]⟩, ⟨61, false, [.int .u32 (.s 2097811)], .tup [.agg [.int .i64 (.s 19), .int .i64 (.s 5), .int .i64 (.s 0), .int .i64 (.s 0), .int .u32 (.s 2)], .bool (.s true)]⟩, ⟨61, false, [.int .u32 (.s 5283875)], .tup [.agg [.int .i64 (.s 18), .int .i64 (.s 0), .int .i64 (.s 1), .int .i64 (.s 5), .int .u32 (.s 0)], .bool (.s true)]⟩, ⟨61, false, [.int .u32 (.s 2138147)], .tup [.agg [.int .i64 (.s 18), .int .i64 (.s 0), .int .i64 (.s 1), .int .i64 (.s 2), .int .u32 (.s 0)], .bool (.s true)]⟩, ⟨61, false, [.int .u32 (.s 21013251)], .tup [.agg [.int .i64 (.s 13), .int .i64 (.s 6), .int .i64 (.s 1), .int .i64 (.s 0), .int .u32 (.s 20)], .bool (.s true)]⟩, ⟨61, false, [.int .u32 (.s 16819075)], .tup [.agg [.int .i64 (.s 13), .int .i64 (.s 7), .int .i64 (.s 1), .int .i64 (.s 0), .int .u32 (.s 16)], .bool (.s true)]⟩, h4, h6]
theorem tab_ok (ρ : Nat → Int) (hg : Sy.Gok ρ ⟨vs, [], [], 0⟩) : ∀ h ∈ tab, Sy.EntryOk Tryz.prog 3 gl ρ h := by
  intro h hh
  simp only [tab, List.mem_cons, List.not_mem_nil, or_false] at hh
  rcases hh with rfl | rfl | rfl | rfl | rfl | rfl | rfl | rfl | rfl | rfl | rfl | rfl | rfl
  · exact alive ρ
  · exact w268439735 ρ
  · exact w1048851 ρ
  · exact w2139171 ρ
  · exact w3187235 ρ
  · exact w4237859 ρ
  · exact w2097811 ρ
  · exact w5283875 ρ
  · exact w2138147 ρ
  · exact w21013251 ρ
  · exact w16819075 ρ
  · exact w4 ρ hg
  · exact w6 ρ hg
noncomputable abbrev hk : Sy.Hook := Sy.hookN 3 gl tab
theorem hk_ok (ρ : Nat → Int) (hg : Sy.Gok ρ ⟨vs, [], [], 0⟩) : Sy.HookOk Tryz.prog hk ρ := Sy.hookN_ok (tab_ok ρ hg)
end machDisk
end Go.Proofs.YtnjenhdfeeonoaaGreatDoor
