/- Seat 20: the package-level variables, and what each statement asks first. -/
import Derived.Test.YtnjenhdfeeonoaaGreatDoorRows
import Derived.Test.YtnjenhdfeeonoaaGreatDoorEnum
namespace Go.Proofs.YtnjenhdfeeonoaaGreatDoor
open Go.RowKit Go.ChangeShapes Go.WideShapes Go.ChangeAt
set_option maxHeartbeats 4000000

namespace machA
abbrev gl : List (Nat × IntKind × List Int) := [(0, .u32, [11, 3, 7, 9, 1, 5]), (1, .u32, [1, 5, 7]), (2, .u32, [0, 4, 6])]
abbrev laid : List (String × DataW Unit) := [("dioptra/trap.order", Rows.laid_dioptra_trap_order), ("dioptra/hart.uneven", Rows.laid_dioptra_hart_uneven), ("dioptra/hart.faults", Rows.laid_dioptra_hart_faults)]
theorem globs {W : World} (h : laidMetH Tryz.prog laid W) : Sy.GlobsAre W 3 gl := by
  intro x hx
  simp only [gl, List.mem_cons, List.not_mem_nil, or_false] at hx
  rcases hx with rfl | rfl | rfl
  · exact ⟨by decide, laid_ints h (by kernel_rfl) (name := "dioptra/trap.order") (n := 6) (t := 136) (e := 23) (k := .u32) (List.mem_cons_self) (by kernel_rfl) (by kernel_rfl) Tryz.underlying136 Tryz.underlying23 (by kernel_rfl) (by kernel_rfl) (by decide)⟩
  · exact ⟨by decide, laid_ints h (by kernel_rfl) (name := "dioptra/hart.faults") (n := 3) (t := 151) (e := 23) (k := .u32) (List.mem_cons_of_mem _ (List.mem_cons_of_mem _ List.mem_cons_self)) (by kernel_rfl) (by kernel_rfl) Tryz.underlying151 Tryz.underlying23 (by kernel_rfl) (by kernel_rfl) (by decide)⟩
  · exact ⟨by decide, laid_ints h (by kernel_rfl) (name := "dioptra/hart.uneven") (n := 3) (t := 151) (e := 23) (k := .u32) (List.mem_cons_of_mem _ List.mem_cons_self) (by kernel_rfl) (by kernel_rfl) Tryz.underlying151 Tryz.underlying23 (by kernel_rfl) (by kernel_rfl) (by decide)⟩
theorem w5243027 (ρ : Nat → Int) : Sy.EntryOk Tryz.prog 3 gl ρ ⟨61, false, [.int .u32 (.s 5243027)], .tup [.agg [.int .i64 (.s 19), .int .i64 (.s 1), .int .i64 (.s 0), .int .i64 (.s 0), .int .u32 (.s 5)], .bool (.s true)]⟩ := Sy.he_run0 (by kernel_rfl) 100000 (vs := []) (pc := []) (Sy.gok0 ρ) rfl rfl (by kernel_rfl)
abbrev tab0 : List Sy.HE := [⟨61, false, [.int .u32 (.s 5243027)], .tup [.agg [.int .i64 (.s 19), .int .i64 (.s 1), .int .i64 (.s 0), .int .i64 (.s 0), .int .u32 (.s 5)], .bool (.s true)]⟩]
theorem tab0_ok (ρ : Nat → Int) : ∀ h ∈ tab0, Sy.EntryOk Tryz.prog 3 gl ρ h := by
  intro h hh
  simp only [tab0, List.mem_cons, List.not_mem_nil, or_false] at hh
  subst hh
  exact w5243027 ρ
abbrev aliveE : Sy.HE := ⟨9, true, [], .bool (.s true)⟩
theorem gok3 (ρ : Nat → Int) : Sy.Gok ρ ⟨[], [], [], 3⟩ := ⟨(fun _ _ _ h => by cases h), (fun _ _ h => by cases h)⟩
theorem alive (ρ : Nat → Int) : Sy.EntryOk Tryz.prog 3 gl ρ aliveE := Sy.he_run (by kernel_rfl) 100000 (tab := tab0) (vs := []) (pc := []) (tab0_ok ρ) (gok3 ρ) rfl rfl true (by kernel_rfl) rfl
theorem pnil {ρ : Nat → Int} : ∀ (b : Sy.B) (t : Bool), (b, t) ∈ ([] : List (Sy.B × Bool)) → b.val ρ = t := fun _ _ h => by cases h
theorem pcons {ρ : Nat → Int} {b : Sy.B} {t : Bool} {l : List (Sy.B × Bool)} (hb : b.val ρ = t) (h : ∀ (b : Sy.B) (t : Bool), (b, t) ∈ l → b.val ρ = t) : ∀ (b' : Sy.B) (t' : Bool), (b', t') ∈ (b, t) :: l → b'.val ρ = t' := by
  intro b' t' hm
  rcases List.mem_cons.1 hm with e | hm
  · cases e; exact hb
  · exact h b' t' hm
abbrev u (n : Int) : Option Sy.V := some (.int .u32 (.s n))
abbrev q (n : Int) : Option Sy.V := some (.int .u64 (.s n))
abbrev z : Option Sy.V := some (.int .u32 (.s 0))
end machA
end Go.Proofs.YtnjenhdfeeonoaaGreatDoor
