/- Seat 19: the package-level variables, decoded words, and what each statement asks first. -/
import Derived.Test.YtkljleenmmeneaaGreatDoorRows
import Derived.Test.YtkljleenmmeneaaGreatDoorHook
namespace Go.Proofs.YtkljleenmmeneaaGreatDoor
open Go.RowKit Go.ChangeShapes Go.WideShapes Go.ChangeAt
set_option maxHeartbeats 4000000

namespace hartA
abbrev gl : List (Nat × IntKind × List Int) := [(0, .u32, [11, 3, 7, 9, 1, 5]), (1, .u32, [1, 5, 7]), (2, .u32, [0, 4, 6])]
abbrev laid : List (String × DataW Unit) := [("dioptra/trap.order", Rows.laid_dioptra_trap_order), ("dioptra/hart.uneven", Rows.laid_dioptra_hart_uneven), ("dioptra/hart.faults", Rows.laid_dioptra_hart_faults)]
theorem globs {W : World} (h : laidMetH Tryz.prog laid W) : Sy.GlobsAre W 3 gl := by
  intro x hx
  simp only [gl, List.mem_cons, List.not_mem_nil, or_false] at hx
  rcases hx with rfl | rfl | rfl
  · exact ⟨by decide, laid_ints h (by kernel_rfl) (name := "dioptra/trap.order") (n := 6) (t := 58) (e := 24) (k := .u32) (List.mem_cons_self) (by kernel_rfl) (by kernel_rfl) Tryz.underlying58 Tryz.underlying24 (by kernel_rfl) (by kernel_rfl) (by decide)⟩
  · exact ⟨by decide, laid_ints h (by kernel_rfl) (name := "dioptra/hart.faults") (n := 3) (t := 73) (e := 24) (k := .u32) (List.mem_cons_of_mem _ (List.mem_cons_of_mem _ List.mem_cons_self)) (by kernel_rfl) (by kernel_rfl) Tryz.underlying73 Tryz.underlying24 (by kernel_rfl) (by kernel_rfl) (by decide)⟩
  · exact ⟨by decide, laid_ints h (by kernel_rfl) (name := "dioptra/hart.uneven") (n := 3) (t := 73) (e := 24) (k := .u32) (List.mem_cons_of_mem _ List.mem_cons_self) (by kernel_rfl) (by kernel_rfl) Tryz.underlying73 Tryz.underlying24 (by kernel_rfl) (by kernel_rfl) (by decide)⟩
theorem w5243027 (ρ : Nat → Int) : Sy.EntryOk Tryz.prog 3 gl ρ ⟨17, false, [.int .u32 (.s 5243027)], .tup [.agg [.int .i64 (.s 19), .int .i64 (.s 1), .int .i64 (.s 0), .int .i64 (.s 0), .int .u32 (.s 5)], .bool (.s true)]⟩ := Sy.he_run0 (by kernel_rfl) 100000 (vs := []) (pc := []) (Sy.gok0 ρ) rfl rfl (by kernel_rfl)
theorem w0 (ρ : Nat → Int) : Sy.EntryOk Tryz.prog 3 gl ρ ⟨17, false, [.int .u32 (.s 0)], .tup [.agg [.int .i64 (.s 0), .int .i64 (.s 0), .int .i64 (.s 0), .int .i64 (.s 0), .int .u32 (.s 0)], .bool (.s false)]⟩ := Sy.he_run0 (by kernel_rfl) 100000 (vs := []) (pc := []) (Sy.gok0 ρ) rfl rfl (by kernel_rfl)
abbrev tab0 : List Sy.HE := [⟨17, false, [.int .u32 (.s 5243027)], .tup [.agg [.int .i64 (.s 19), .int .i64 (.s 1), .int .i64 (.s 0), .int .i64 (.s 0), .int .u32 (.s 5)], .bool (.s true)]⟩, ⟨17, false, [.int .u32 (.s 0)], .tup [.agg [.int .i64 (.s 0), .int .i64 (.s 0), .int .i64 (.s 0), .int .i64 (.s 0), .int .u32 (.s 0)], .bool (.s false)]⟩]
theorem tab0_ok (ρ : Nat → Int) : ∀ h ∈ tab0, Sy.EntryOk Tryz.prog 3 gl ρ h := by
  intro h hh
  simp only [tab0, List.mem_cons, List.not_mem_nil, or_false] at hh
  rcases hh with rfl | rfl
  · exact w5243027 ρ
  · exact w0 ρ
abbrev aliveE : Sy.HE := ⟨4, true, [], .bool (.s true)⟩
theorem gok3 (ρ : Nat → Int) : Sy.Gok ρ ⟨[], [], [], 3⟩ := ⟨(fun _ _ _ h => by cases h), (fun _ _ h => by cases h)⟩
theorem alive (ρ : Nat → Int) : Sy.EntryOk Tryz.prog 3 gl ρ aliveE := Sy.he_run (by kernel_rfl) 100000 (tab := tab0) (vs := []) (pc := []) (tab0_ok ρ) (gok3 ρ) rfl rfl true (by kernel_rfl) rfl
end hartA
end Go.Proofs.YtkljleenmmeneaaGreatDoor
