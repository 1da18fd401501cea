/- The statement HartFar. -/
import Derived.Test.YtoiadmdnfcgckaaGreatDoorCards
import Derived.Test.YtoiadmdnfcgckaaGreatDoorTie
import Derived.Test.YtoiadmdnfcgckaaGreatDoorFar
import Derived.Test.YtoiadmdnfcgckaaGreatDoorHartA
namespace Go.Proofs.YtoiadmdnfcgckaaGreatDoor
open Go.RowKit Go.ChangeShapes Go.WideShapes Go.ChangeAt
set_option maxHeartbeats 4000000

namespace hartFar
open hartA
theorem w19 (ρ : Nat → Int) : Sy.EntryOk Tryz.prog 3 gl ρ ⟨35, false, [.int .u32 (.s 19)], .tup [.agg [.int .i64 (.s 19), .int .i64 (.s 0), .int .i64 (.s 0), .int .i64 (.s 0), .int .u32 (.s 0)], .bool (.s true)]⟩ := Sy.he_run0 (by kernel_rfl) 100000 (vs := []) (pc := []) (Sy.gok0 ρ) rfl rfl (by kernel_rfl)
abbrev tab : List Sy.HE := [aliveE, ⟨35, false, [.int .u32 (.s 19)], .tup [.agg [.int .i64 (.s 19), .int .i64 (.s 0), .int .i64 (.s 0), .int .i64 (.s 0), .int .u32 (.s 0)], .bool (.s true)]⟩]
theorem tab_ok (ρ : Nat → Int) : ∀ h ∈ tab, Sy.EntryOk Tryz.prog 3 gl ρ h := by
  intro h hh
  simp only [tab, List.mem_cons, List.not_mem_nil, or_false] at hh
  rcases hh with rfl | rfl
  · exact alive ρ
  · exact w19 ρ
abbrev ks : List Sy.Ck := [.i .u32, .i .u32, .i .u32, .i .u32, .i .u32, .i .u32, .i .u32, .i .u32, .i .u32, .i .u32, .i .u32, .i .u32, .i .u32, .i .u32, .i .u32, .i .u32, .i .u64, .i .i64, .i .u32, .i .u32, .i .u32, .i .u32, .i .u32, .i .u32, .i .u32, .i .u32, .i .u32, .i .u32, .i .u32, .i .u32, .i .u32, .i .u32, .i .u32, .i .u32, .i .u32, .i .u32, .i .u32, .i .u32, .i .u32, .i .u32, .i .u32, .i .u32, .i .u32, .i .u32, .i .u32, .i .u32, .i .u32, .i .u32, .i .u32, .i .u32, .i .u32, .i .u32, .b, .b, .i .u32, .s]
abbrev sh : List Sy.Sh := [.i .u32]
theorem runt0a : Sy.HoldsF Tryz.prog 3 gl 7 ks sh true [((Sy.B.lt (.v 56) (.c 256)), true)] := Sy.holdsF_run (by kernel_rfl) 100000 3 gl (tab := tab) (fun ρ _ => tab_ok ρ) (by kernel_rfl)
theorem runt0baa : Sy.HoldsF Tryz.prog 3 gl 7 ks sh true [((Sy.B.eq (.bin .and .u32 (.v 0) (.c 131072)) (.c 0)), true), ((Sy.B.eq (.v 56) (.c 256)), true), ((Sy.B.lt (.v 56) (.c 256)), false)] := Sy.holdsF_run (by kernel_rfl) 100000 3 gl (tab := tab) (fun ρ _ => tab_ok ρ) (by kernel_rfl)
theorem runt0baba : Sy.HoldsF Tryz.prog 3 gl 7 ks sh true [((Sy.B.lt (.bin .and .u32 (.bin .shr .u32 (.v 0) (.c 11)) (.c 3)) (.c 1)), true), ((Sy.B.eq (.bin .and .u32 (.v 0) (.c 131072)) (.c 0)), false), ((Sy.B.eq (.v 56) (.c 256)), true), ((Sy.B.lt (.v 56) (.c 256)), false)] := Sy.holdsF_run (by kernel_rfl) 100000 3 gl (tab := tab) (fun ρ _ => tab_ok ρ) (by kernel_rfl)
theorem runt0babba : Sy.HoldsF Tryz.prog 3 gl 7 ks sh true [((Sy.B.lt (.bin .and .u32 (.bin .shr .u32 (.v 0) (.c 11)) (.c 3)) (.c 2)), true), ((Sy.B.lt (.bin .and .u32 (.bin .shr .u32 (.v 0) (.c 11)) (.c 3)) (.c 1)), false), ((Sy.B.eq (.bin .and .u32 (.v 0) (.c 131072)) (.c 0)), false), ((Sy.B.eq (.v 56) (.c 256)), true), ((Sy.B.lt (.v 56) (.c 256)), false)] := Sy.holdsF_run (by kernel_rfl) 100000 3 gl (tab := tab) (fun ρ _ => tab_ok ρ) (by kernel_rfl)
theorem runt0babbba : Sy.HoldsF Tryz.prog 3 gl 7 ks sh true [((Sy.B.lt (.bin .and .u32 (.bin .shr .u32 (.v 0) (.c 11)) (.c 3)) (.c 3)), true), ((Sy.B.lt (.bin .and .u32 (.bin .shr .u32 (.v 0) (.c 11)) (.c 3)) (.c 2)), false), ((Sy.B.lt (.bin .and .u32 (.bin .shr .u32 (.v 0) (.c 11)) (.c 3)) (.c 1)), false), ((Sy.B.eq (.bin .and .u32 (.v 0) (.c 131072)) (.c 0)), false), ((Sy.B.eq (.v 56) (.c 256)), true), ((Sy.B.lt (.v 56) (.c 256)), false)] := Sy.holdsF_run (by kernel_rfl) 100000 3 gl (tab := tab) (fun ρ _ => tab_ok ρ) (by kernel_rfl)
theorem runt0babbbb : Sy.HoldsF Tryz.prog 3 gl 7 ks sh true [((Sy.B.lt (.bin .and .u32 (.bin .shr .u32 (.v 0) (.c 11)) (.c 3)) (.c 3)), false), ((Sy.B.lt (.bin .and .u32 (.bin .shr .u32 (.v 0) (.c 11)) (.c 3)) (.c 2)), false), ((Sy.B.lt (.bin .and .u32 (.bin .shr .u32 (.v 0) (.c 11)) (.c 3)) (.c 1)), false), ((Sy.B.eq (.bin .and .u32 (.v 0) (.c 131072)) (.c 0)), false), ((Sy.B.eq (.v 56) (.c 256)), true), ((Sy.B.lt (.v 56) (.c 256)), false)] := Sy.holdsF_run (by kernel_rfl) 100000 3 gl (tab := tab) (fun ρ _ => tab_ok ρ) (by kernel_rfl)
theorem runt0babbb : Sy.HoldsF Tryz.prog 3 gl 7 ks sh true [((Sy.B.lt (.bin .and .u32 (.bin .shr .u32 (.v 0) (.c 11)) (.c 3)) (.c 2)), false), ((Sy.B.lt (.bin .and .u32 (.bin .shr .u32 (.v 0) (.c 11)) (.c 3)) (.c 1)), false), ((Sy.B.eq (.bin .and .u32 (.v 0) (.c 131072)) (.c 0)), false), ((Sy.B.eq (.v 56) (.c 256)), true), ((Sy.B.lt (.v 56) (.c 256)), false)] := Sy.holdsF_split (Sy.B.lt (.bin .and .u32 (.bin .shr .u32 (.v 0) (.c 11)) (.c 3)) (.c 3)) runt0babbba runt0babbbb
theorem runt0babb : Sy.HoldsF Tryz.prog 3 gl 7 ks sh true [((Sy.B.lt (.bin .and .u32 (.bin .shr .u32 (.v 0) (.c 11)) (.c 3)) (.c 1)), false), ((Sy.B.eq (.bin .and .u32 (.v 0) (.c 131072)) (.c 0)), false), ((Sy.B.eq (.v 56) (.c 256)), true), ((Sy.B.lt (.v 56) (.c 256)), false)] := Sy.holdsF_split (Sy.B.lt (.bin .and .u32 (.bin .shr .u32 (.v 0) (.c 11)) (.c 3)) (.c 2)) runt0babba runt0babbb
theorem runt0bab : Sy.HoldsF Tryz.prog 3 gl 7 ks sh true [((Sy.B.eq (.bin .and .u32 (.v 0) (.c 131072)) (.c 0)), false), ((Sy.B.eq (.v 56) (.c 256)), true), ((Sy.B.lt (.v 56) (.c 256)), false)] := Sy.holdsF_split (Sy.B.lt (.bin .and .u32 (.bin .shr .u32 (.v 0) (.c 11)) (.c 3)) (.c 1)) runt0baba runt0babb
theorem runt0ba : Sy.HoldsF Tryz.prog 3 gl 7 ks sh true [((Sy.B.eq (.v 56) (.c 256)), true), ((Sy.B.lt (.v 56) (.c 256)), false)] := Sy.holdsF_split (Sy.B.eq (.bin .and .u32 (.v 0) (.c 131072)) (.c 0)) runt0baa runt0bab
theorem runt0bba : Sy.HoldsF Tryz.prog 3 gl 7 ks sh true [((Sy.B.eq (.v 56) (.c 257)), true), ((Sy.B.eq (.v 56) (.c 256)), false), ((Sy.B.lt (.v 56) (.c 256)), false)] := Sy.holdsF_run (by kernel_rfl) 100000 3 gl (tab := tab) (fun ρ _ => tab_ok ρ) (by kernel_rfl)
theorem runt0bbba : Sy.HoldsF Tryz.prog 3 gl 7 ks sh true [((Sy.B.eq (.v 56) (.c 258)), true), ((Sy.B.eq (.v 56) (.c 257)), false), ((Sy.B.eq (.v 56) (.c 256)), false), ((Sy.B.lt (.v 56) (.c 256)), false)] := Sy.holdsF_run (by kernel_rfl) 100000 3 gl (tab := tab) (fun ρ _ => tab_ok ρ) (by kernel_rfl)
theorem runt0bbbba : Sy.HoldsF Tryz.prog 3 gl 7 ks sh true [((Sy.B.eq (.v 56) (.c 259)), true), ((Sy.B.eq (.v 56) (.c 258)), false), ((Sy.B.eq (.v 56) (.c 257)), false), ((Sy.B.eq (.v 56) (.c 256)), false), ((Sy.B.lt (.v 56) (.c 256)), false)] := Sy.holdsF_run (by kernel_rfl) 100000 3 gl (tab := tab) (fun ρ _ => tab_ok ρ) (by kernel_rfl)
theorem runt0bbbbb : Sy.HoldsF Tryz.prog 3 gl 7 ks sh true [((Sy.B.eq (.v 56) (.c 259)), false), ((Sy.B.eq (.v 56) (.c 258)), false), ((Sy.B.eq (.v 56) (.c 257)), false), ((Sy.B.eq (.v 56) (.c 256)), false), ((Sy.B.lt (.v 56) (.c 256)), false)] := Sy.holdsF_run (by kernel_rfl) 100000 3 gl (tab := tab) (fun ρ _ => tab_ok ρ) (by kernel_rfl)
theorem runt0bbbb : Sy.HoldsF Tryz.prog 3 gl 7 ks sh true [((Sy.B.eq (.v 56) (.c 258)), false), ((Sy.B.eq (.v 56) (.c 257)), false), ((Sy.B.eq (.v 56) (.c 256)), false), ((Sy.B.lt (.v 56) (.c 256)), false)] := Sy.holdsF_split (Sy.B.eq (.v 56) (.c 259)) runt0bbbba runt0bbbbb
theorem runt0bbb : Sy.HoldsF Tryz.prog 3 gl 7 ks sh true [((Sy.B.eq (.v 56) (.c 257)), false), ((Sy.B.eq (.v 56) (.c 256)), false), ((Sy.B.lt (.v 56) (.c 256)), false)] := Sy.holdsF_split (Sy.B.eq (.v 56) (.c 258)) runt0bbba runt0bbbb
theorem runt0bb : Sy.HoldsF Tryz.prog 3 gl 7 ks sh true [((Sy.B.eq (.v 56) (.c 256)), false), ((Sy.B.lt (.v 56) (.c 256)), false)] := Sy.holdsF_split (Sy.B.eq (.v 56) (.c 257)) runt0bba runt0bbb
theorem runt0b : Sy.HoldsF Tryz.prog 3 gl 7 ks sh true [((Sy.B.lt (.v 56) (.c 256)), false)] := Sy.holdsF_split (Sy.B.eq (.v 56) (.c 256)) runt0ba runt0bb
theorem runt0 : Sy.HoldsF Tryz.prog 3 gl 7 ks sh true [] := Sy.holdsF_split (Sy.B.lt (.v 56) (.c 256)) runt0a runt0b
theorem runf0a : Sy.HoldsF Tryz.prog 3 gl 7 ks sh false [((Sy.B.lt (.v 56) (.c 256)), true)] := Sy.holdsF_run (by kernel_rfl) 100000 3 gl (tab := tab) (fun ρ _ => tab_ok ρ) (by kernel_rfl)
theorem runf0baa : Sy.HoldsF Tryz.prog 3 gl 7 ks sh false [((Sy.B.eq (.bin .and .u32 (.v 0) (.c 131072)) (.c 0)), true), ((Sy.B.eq (.v 56) (.c 256)), true), ((Sy.B.lt (.v 56) (.c 256)), false)] := Sy.holdsF_run (by kernel_rfl) 100000 3 gl (tab := tab) (fun ρ _ => tab_ok ρ) (by kernel_rfl)
theorem runf0baba : Sy.HoldsF Tryz.prog 3 gl 7 ks sh false [((Sy.B.lt (.bin .and .u32 (.bin .shr .u32 (.v 0) (.c 11)) (.c 3)) (.c 1)), true), ((Sy.B.eq (.bin .and .u32 (.v 0) (.c 131072)) (.c 0)), false), ((Sy.B.eq (.v 56) (.c 256)), true), ((Sy.B.lt (.v 56) (.c 256)), false)] := Sy.holdsF_run (by kernel_rfl) 100000 3 gl (tab := tab) (fun ρ _ => tab_ok ρ) (by kernel_rfl)
theorem runf0babba : Sy.HoldsF Tryz.prog 3 gl 7 ks sh false [((Sy.B.lt (.bin .and .u32 (.bin .shr .u32 (.v 0) (.c 11)) (.c 3)) (.c 2)), true), ((Sy.B.lt (.bin .and .u32 (.bin .shr .u32 (.v 0) (.c 11)) (.c 3)) (.c 1)), false), ((Sy.B.eq (.bin .and .u32 (.v 0) (.c 131072)) (.c 0)), false), ((Sy.B.eq (.v 56) (.c 256)), true), ((Sy.B.lt (.v 56) (.c 256)), false)] := Sy.holdsF_run (by kernel_rfl) 100000 3 gl (tab := tab) (fun ρ _ => tab_ok ρ) (by kernel_rfl)
theorem runf0babbba : Sy.HoldsF Tryz.prog 3 gl 7 ks sh false [((Sy.B.lt (.bin .and .u32 (.bin .shr .u32 (.v 0) (.c 11)) (.c 3)) (.c 3)), true), ((Sy.B.lt (.bin .and .u32 (.bin .shr .u32 (.v 0) (.c 11)) (.c 3)) (.c 2)), false), ((Sy.B.lt (.bin .and .u32 (.bin .shr .u32 (.v 0) (.c 11)) (.c 3)) (.c 1)), false), ((Sy.B.eq (.bin .and .u32 (.v 0) (.c 131072)) (.c 0)), false), ((Sy.B.eq (.v 56) (.c 256)), true), ((Sy.B.lt (.v 56) (.c 256)), false)] := Sy.holdsF_run (by kernel_rfl) 100000 3 gl (tab := tab) (fun ρ _ => tab_ok ρ) (by kernel_rfl)
theorem runf0babbbb : Sy.HoldsF Tryz.prog 3 gl 7 ks sh false [((Sy.B.lt (.bin .and .u32 (.bin .shr .u32 (.v 0) (.c 11)) (.c 3)) (.c 3)), false), ((Sy.B.lt (.bin .and .u32 (.bin .shr .u32 (.v 0) (.c 11)) (.c 3)) (.c 2)), false), ((Sy.B.lt (.bin .and .u32 (.bin .shr .u32 (.v 0) (.c 11)) (.c 3)) (.c 1)), false), ((Sy.B.eq (.bin .and .u32 (.v 0) (.c 131072)) (.c 0)), false), ((Sy.B.eq (.v 56) (.c 256)), true), ((Sy.B.lt (.v 56) (.c 256)), false)] := Sy.holdsF_run (by kernel_rfl) 100000 3 gl (tab := tab) (fun ρ _ => tab_ok ρ) (by kernel_rfl)
theorem runf0babbb : Sy.HoldsF Tryz.prog 3 gl 7 ks sh false [((Sy.B.lt (.bin .and .u32 (.bin .shr .u32 (.v 0) (.c 11)) (.c 3)) (.c 2)), false), ((Sy.B.lt (.bin .and .u32 (.bin .shr .u32 (.v 0) (.c 11)) (.c 3)) (.c 1)), false), ((Sy.B.eq (.bin .and .u32 (.v 0) (.c 131072)) (.c 0)), false), ((Sy.B.eq (.v 56) (.c 256)), true), ((Sy.B.lt (.v 56) (.c 256)), false)] := Sy.holdsF_split (Sy.B.lt (.bin .and .u32 (.bin .shr .u32 (.v 0) (.c 11)) (.c 3)) (.c 3)) runf0babbba runf0babbbb
theorem runf0babb : Sy.HoldsF Tryz.prog 3 gl 7 ks sh false [((Sy.B.lt (.bin .and .u32 (.bin .shr .u32 (.v 0) (.c 11)) (.c 3)) (.c 1)), false), ((Sy.B.eq (.bin .and .u32 (.v 0) (.c 131072)) (.c 0)), false), ((Sy.B.eq (.v 56) (.c 256)), true), ((Sy.B.lt (.v 56) (.c 256)), false)] := Sy.holdsF_split (Sy.B.lt (.bin .and .u32 (.bin .shr .u32 (.v 0) (.c 11)) (.c 3)) (.c 2)) runf0babba runf0babbb
theorem runf0bab : Sy.HoldsF Tryz.prog 3 gl 7 ks sh false [((Sy.B.eq (.bin .and .u32 (.v 0) (.c 131072)) (.c 0)), false), ((Sy.B.eq (.v 56) (.c 256)), true), ((Sy.B.lt (.v 56) (.c 256)), false)] := Sy.holdsF_split (Sy.B.lt (.bin .and .u32 (.bin .shr .u32 (.v 0) (.c 11)) (.c 3)) (.c 1)) runf0baba runf0babb
theorem runf0ba : Sy.HoldsF Tryz.prog 3 gl 7 ks sh false [((Sy.B.eq (.v 56) (.c 256)), true), ((Sy.B.lt (.v 56) (.c 256)), false)] := Sy.holdsF_split (Sy.B.eq (.bin .and .u32 (.v 0) (.c 131072)) (.c 0)) runf0baa runf0bab
theorem runf0bba : Sy.HoldsF Tryz.prog 3 gl 7 ks sh false [((Sy.B.eq (.v 56) (.c 257)), true), ((Sy.B.eq (.v 56) (.c 256)), false), ((Sy.B.lt (.v 56) (.c 256)), false)] := Sy.holdsF_run (by kernel_rfl) 100000 3 gl (tab := tab) (fun ρ _ => tab_ok ρ) (by kernel_rfl)
theorem runf0bbba : Sy.HoldsF Tryz.prog 3 gl 7 ks sh false [((Sy.B.eq (.v 56) (.c 258)), true), ((Sy.B.eq (.v 56) (.c 257)), false), ((Sy.B.eq (.v 56) (.c 256)), false), ((Sy.B.lt (.v 56) (.c 256)), false)] := Sy.holdsF_run (by kernel_rfl) 100000 3 gl (tab := tab) (fun ρ _ => tab_ok ρ) (by kernel_rfl)
theorem runf0bbbba : Sy.HoldsF Tryz.prog 3 gl 7 ks sh false [((Sy.B.eq (.v 56) (.c 259)), true), ((Sy.B.eq (.v 56) (.c 258)), false), ((Sy.B.eq (.v 56) (.c 257)), false), ((Sy.B.eq (.v 56) (.c 256)), false), ((Sy.B.lt (.v 56) (.c 256)), false)] := Sy.holdsF_run (by kernel_rfl) 100000 3 gl (tab := tab) (fun ρ _ => tab_ok ρ) (by kernel_rfl)
theorem runf0bbbbb : Sy.HoldsF Tryz.prog 3 gl 7 ks sh false [((Sy.B.eq (.v 56) (.c 259)), false), ((Sy.B.eq (.v 56) (.c 258)), false), ((Sy.B.eq (.v 56) (.c 257)), false), ((Sy.B.eq (.v 56) (.c 256)), false), ((Sy.B.lt (.v 56) (.c 256)), false)] := Sy.holdsF_run (by kernel_rfl) 100000 3 gl (tab := tab) (fun ρ _ => tab_ok ρ) (by kernel_rfl)
theorem runf0bbbb : Sy.HoldsF Tryz.prog 3 gl 7 ks sh false [((Sy.B.eq (.v 56) (.c 258)), false), ((Sy.B.eq (.v 56) (.c 257)), false), ((Sy.B.eq (.v 56) (.c 256)), false), ((Sy.B.lt (.v 56) (.c 256)), false)] := Sy.holdsF_split (Sy.B.eq (.v 56) (.c 259)) runf0bbbba runf0bbbbb
theorem runf0bbb : Sy.HoldsF Tryz.prog 3 gl 7 ks sh false [((Sy.B.eq (.v 56) (.c 257)), false), ((Sy.B.eq (.v 56) (.c 256)), false), ((Sy.B.lt (.v 56) (.c 256)), false)] := Sy.holdsF_split (Sy.B.eq (.v 56) (.c 258)) runf0bbba runf0bbbb
theorem runf0bb : Sy.HoldsF Tryz.prog 3 gl 7 ks sh false [((Sy.B.eq (.v 56) (.c 256)), false), ((Sy.B.lt (.v 56) (.c 256)), false)] := Sy.holdsF_split (Sy.B.eq (.v 56) (.c 257)) runf0bba runf0bbb
theorem runf0b : Sy.HoldsF Tryz.prog 3 gl 7 ks sh false [((Sy.B.lt (.v 56) (.c 256)), false)] := Sy.holdsF_split (Sy.B.eq (.v 56) (.c 256)) runf0ba runf0bb
theorem runf0 : Sy.HoldsF Tryz.prog 3 gl 7 ks sh false [] := Sy.holdsF_split (Sy.B.lt (.v 56) (.c 256)) runf0a runf0b

set_option maxRecDepth 100000 in
theorem owed : OwedT Tryz.prog 7 Tryz.f7 (laidMetH Tryz.prog Rows.hartFarRow.laid) := by
  intro H enc W base args ds p hL hval hA
  rw [Tryz.params7] at hval hA
  obtain ⟨hl, _⟩ := trodAll_len _ _ _ _ hA
  obtain ⟨v0, v1, rfl⟩ : ∃ v0 v1, args = #[v0, v1] := by
    obtain ⟨l⟩ := args
    match l, hl with
    | [v0, v1], _ => exact ⟨v0, v1, rfl⟩
  obtain ⟨_, _, _, _, h0, r0⟩ := trodAll_head (v := v0) (vs := [v1]) hA
  obtain ⟨_, _, _, _, h1, r1⟩ := trodAll_head (v := v1) (vs := []) r0
  clear r1
  have hv0 := hval 0 33 v0 rfl rfl
  have hv1 := hval 1 22 v1 rfl rfl
  clear hval hA
  obtain ⟨cs, rfl, hc⟩ := Sy.open_ck (ts := [22, 22, 22, 22, 22, 22, 22, 22, 22, 22, 22, 22, 22, 22, 22, 22, 23, 3, 22, 22, 22, 22, 22, 22, 22, 22, 22, 22, 22, 22, 22, 22, 22, 22, 22, 22, 22, 22, 22, 22, 22, 22, 22, 22, 22, 22, 22, 22, 22, 22, 22, 22, 4, 4, 22, 29]) (ks := ks) Tryz.underlying33 rfl (by kernel_rfl) (by kernel_rfl) (by kernel_rfl) hv0
  exact Sy.calls_holdsF (l := sh) (ks := ks) (vs := [v1]) rfl hc ⟨open_int_ok Tryz.underlying22 hv1, trivial⟩ (fun nil => by cases nil; exact runf0; exact runt0) W (globs hL)

theorem own : ownKnob Tryz.prog.godebug = none := by kernel_rfl
theorem laidOut : laidOutB Tryz.prog = true := by kernel_rfl
theorem door_met (os : Os) (args : Array Value) : laidMetH Tryz.prog Rows.hartFarRow.laid ((World.doorLaid Tryz.prog 400 os).forCall (fun _ _ => 0) ⟨#[], args, []⟩).memory :=
  laidMetH_of_parts3 (fuel := 8) (laidMet_of_run' 8 (by kernel_rfl) (by kernel_rfl)) (by kernel_rfl) (by kernel_rfl)

set_option maxRecDepth 100000 in
theorem lifted (os : Os) (started : os.Started) (H : Type) (enc : TypeId × Value → H) :
    ReturnsInHanded {} Tryz.checked os 7 .any (fun w args => (Rows.hartFarSpec.pre enc Tryz.prog Tryz.f7 Rows.hartFarRow.domain false w args ∧ laidMetH Tryz.prog Rows.hartFarRow.laid w) ∧ sizedMet enc Tryz.prog Tryz.f7 (OpenSpec.ofChange Rows.hartFarSpec) false w args)
      (Rows.hartFarSpec.post enc Tryz.prog Tryz.f7 false true false false) := by
  refine law_tied (C := Tryz.checked) (tb := 4) own started (by kernel_rfl) Tryz.func7
    (ChangeSpec.witness_shaped (enc := enc) (C := Tryz.checked) (os := os) (X := fun w _ => laidMetH Tryz.prog Rows.hartFarRow.laid w) false (World.doorLaid Tryz.prog 400 os) #[.agg #[.int .u32 0, .int .u32 0, .int .u32 0, .int .u32 0, .int .u32 0, .int .u32 0, .int .u32 0, .int .u32 0, .int .u32 0, .int .u32 0, .int .u32 0, .int .u32 0, .int .u32 0, .int .u32 0, .int .u32 0, .int .u32 0, .int .u64 0, .int .i64 0, .int .u32 0, .int .u32 0, .int .u32 0, .int .u32 0, .int .u32 0, .int .u32 0, .int .u32 0, .int .u32 0, .int .u32 0, .int .u32 0, .int .u32 0, .int .u32 0, .int .u32 0, .int .u32 0, .int .u32 0, .int .u32 0, .int .u32 0, .int .u32 0, .int .u32 0, .int .u32 0, .int .u32 0, .int .u32 0, .int .u32 0, .int .u32 0, .int .u32 0, .int .u32 0, .int .u32 0, .int .u32 0, .int .u32 0, .int .u32 0, .int .u32 0, .int .u32 0, .int .u32 0, .int .u32 0, .bool false, .bool false, .int .u32 0, .slice none 0 0], .int .u32 0] 8 rfl (World.shaped_of_RefB (by kernel_rfl) (by kernel_rfl)) (by kernel_rfl) (by kernel_rfl) (by kernel_rfl) (door_met os _))
    rfl Tryz.underlying4 rfl ?_ laidOut (of_decide_eq_true (by kernel_rfl)) owed
  intro ds hl
  match ds, hl with
  | [a, b], _ => exact ⟨rfl, rfl, rfl⟩

theorem over : Rows.hartFarRow.holds Tryz.pinned (OpenSpec.ofChange Rows.hartFarSpec) :=
  OpenClaim.holds_of_wide 7 Tryz.f7 rfl rfl rfl rfl rfl rfl rfl ⟨rfl, rfl, rfl, rfl, rfl⟩ rfl rfl rfl rfl rfl (by kernel_rfl) Tryz.func7 (by kernel_rfl)
    (of_decide_eq_true (by kernel_rfl)) (by unfold Func.isWrapper; first | (rw [if_pos (by decide +kernel)]; kernel_rfl) | (rw [if_neg (by decide +kernel)]; exact ⟨rfl, rfl⟩))
    (fun os started H enc _ => lifted os started H enc)

theorem proved : Rows.HartFarCardSaid :=
  Claim7.holds_tied_plain_at .later [] [.data, .data, .data] true (true, "78edcb684109728d7a314d77ed62bcf9b9a4a18a23a89d810ea213b920f1d2a7") true
    over (fun _ h => by cases h) (by kernel_rfl) (fun _ h => by cases h) hartFar_row_tie rfl ⟨rfl, rfl⟩ (by kernel_rfl) rfl
    (fun f fn hf hfn => by
      obtain rfl : f = 7 := Option.some.inj ((show Tryz.prog.funcNamed "dioptra/dioptralaw19.HartFar" = some 7 by kernel_rfl).symm.trans hf) |>.symm
      obtain rfl : fn = Tryz.f7 := (Option.some.inj (Tryz.func7.symm.trans hfn)).symm
      exact ⟨by kernel_rfl, fun j t ht => by
        have hall : (Tryz.f7.params.toList.all fun u => !Tryz.prog.wantsStandIn u) = true := by kernel_rfl
        have hm : t ∈ Tryz.f7.params.toList := by simpa using Array.mem_of_getElem? ht
        have h1 : Tryz.prog.wantsStandIn t = false := by simpa using List.all_eq_true.1 hall t hm
        exact h1⟩)
    (by kernel_rfl)
end hartFar
#print axioms hartFar.proved
end Go.Proofs.YtoiadmdnfcgckaaGreatDoor
