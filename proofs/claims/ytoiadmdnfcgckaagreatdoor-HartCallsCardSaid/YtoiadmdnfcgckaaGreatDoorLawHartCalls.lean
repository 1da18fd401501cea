/- The statement HartCalls. -/
import Derived.Test.YtoiadmdnfcgckaaGreatDoorCards
import Derived.Test.YtoiadmdnfcgckaaGreatDoorTie
import Derived.Test.YtoiadmdnfcgckaaGreatDoorHartA
namespace Go.Proofs.YtoiadmdnfcgckaaGreatDoor
open Go.RowKit Go.ChangeShapes Go.WideShapes Go.ChangeAt
set_option maxHeartbeats 4000000

namespace hartCalls
open hartA
theorem w115 (ρ : Nat → Int) : Sy.EntryOk Tryz.prog 3 gl ρ ⟨35, false, [.int .u32 (.s 115)], .tup [.agg [.int .i64 (.s 58), .int .i64 (.s 0), .int .i64 (.s 0), .int .i64 (.s 0), .int .u32 (.s 0)], .bool (.s true)]⟩ := Sy.he_run0 (by kernel_rfl) 100000 (vs := []) (pc := []) (Sy.gok0 ρ) rfl rfl (by kernel_rfl)
theorem w807403635 (ρ : Nat → Int) : Sy.EntryOk Tryz.prog 3 gl ρ ⟨35, false, [.int .u32 (.s 807403635)], .tup [.agg [.int .i64 (.s 60), .int .i64 (.s 0), .int .i64 (.s 0), .int .i64 (.s 0), .int .u32 (.s 0)], .bool (.s true)]⟩ := Sy.he_run0 (by kernel_rfl) 100000 (vs := []) (pc := []) (Sy.gok0 ρ) rfl rfl (by kernel_rfl)
theorem w270532723 (ρ : Nat → Int) : Sy.EntryOk Tryz.prog 3 gl ρ ⟨35, false, [.int .u32 (.s 270532723)], .tup [.agg [.int .i64 (.s 61), .int .i64 (.s 0), .int .i64 (.s 0), .int .i64 (.s 0), .int .u32 (.s 0)], .bool (.s true)]⟩ := Sy.he_run0 (by kernel_rfl) 100000 (vs := []) (pc := []) (Sy.gok0 ρ) rfl rfl (by kernel_rfl)
abbrev tab : List Sy.HE := [aliveE, ⟨35, false, [.int .u32 (.s 115)], .tup [.agg [.int .i64 (.s 58), .int .i64 (.s 0), .int .i64 (.s 0), .int .i64 (.s 0), .int .u32 (.s 0)], .bool (.s true)]⟩, ⟨35, false, [.int .u32 (.s 807403635)], .tup [.agg [.int .i64 (.s 60), .int .i64 (.s 0), .int .i64 (.s 0), .int .i64 (.s 0), .int .u32 (.s 0)], .bool (.s true)]⟩, ⟨35, false, [.int .u32 (.s 270532723)], .tup [.agg [.int .i64 (.s 61), .int .i64 (.s 0), .int .i64 (.s 0), .int .i64 (.s 0), .int .u32 (.s 0)], .bool (.s true)]⟩]
theorem tab_ok (ρ : Nat → Int) : ∀ h ∈ tab, Sy.EntryOk Tryz.prog 3 gl ρ h := by
  intro h hh
  simp only [tab, List.mem_cons, List.not_mem_nil, or_false] at hh
  rcases hh with rfl | rfl | rfl | rfl
  · exact alive ρ
  · exact w115 ρ
  · exact w807403635 ρ
  · exact w270532723 ρ
def sh : List Sy.Sh := [.b, .b, .i .u8]
theorem run7 : Sy.HoldsG Tryz.prog 3 gl 9 sh [((Sy.B.eq (.bin .rem .u32 (.v 2) (.c 8)) (.c 6)), false), ((Sy.B.eq (.bin .rem .u32 (.v 2) (.c 8)) (.c 5)), false), ((Sy.B.eq (.bin .rem .u32 (.v 2) (.c 8)) (.c 4)), false), ((Sy.B.eq (.bin .rem .u32 (.v 2) (.c 8)) (.c 3)), false), ((Sy.B.eq (.bin .rem .u32 (.v 2) (.c 8)) (.c 2)), false), ((Sy.B.eq (.bin .rem .u32 (.v 2) (.c 8)) (.c 1)), false), ((Sy.B.eq (.bin .rem .u32 (.v 2) (.c 8)) (.c 0)), false)] := Sy.holdsG_runH (by kernel_rfl) 100000 3 gl (tab := tab) (fun ρ _ => tab_ok ρ) (by kernel_rfl)
theorem run6x : Sy.HoldsG Tryz.prog 3 gl 9 sh [((Sy.B.eq (.bin .rem .u32 (.v 2) (.c 8)) (.c 6)), true), ((Sy.B.eq (.bin .rem .u32 (.v 2) (.c 8)) (.c 5)), false), ((Sy.B.eq (.bin .rem .u32 (.v 2) (.c 8)) (.c 4)), false), ((Sy.B.eq (.bin .rem .u32 (.v 2) (.c 8)) (.c 3)), false), ((Sy.B.eq (.bin .rem .u32 (.v 2) (.c 8)) (.c 2)), false), ((Sy.B.eq (.bin .rem .u32 (.v 2) (.c 8)) (.c 1)), false), ((Sy.B.eq (.bin .rem .u32 (.v 2) (.c 8)) (.c 0)), false)] := Sy.holdsG_runH (by kernel_rfl) 100000 3 gl (tab := tab) (fun ρ _ => tab_ok ρ) (by kernel_rfl)
theorem run6 : Sy.HoldsG Tryz.prog 3 gl 9 sh [((Sy.B.eq (.bin .rem .u32 (.v 2) (.c 8)) (.c 5)), false), ((Sy.B.eq (.bin .rem .u32 (.v 2) (.c 8)) (.c 4)), false), ((Sy.B.eq (.bin .rem .u32 (.v 2) (.c 8)) (.c 3)), false), ((Sy.B.eq (.bin .rem .u32 (.v 2) (.c 8)) (.c 2)), false), ((Sy.B.eq (.bin .rem .u32 (.v 2) (.c 8)) (.c 1)), false), ((Sy.B.eq (.bin .rem .u32 (.v 2) (.c 8)) (.c 0)), false)] := Sy.holdsG_split (Sy.B.eq (.bin .rem .u32 (.v 2) (.c 8)) (.c 6)) run6x run7
theorem run5x : Sy.HoldsG Tryz.prog 3 gl 9 sh [((Sy.B.eq (.bin .rem .u32 (.v 2) (.c 8)) (.c 5)), true), ((Sy.B.eq (.bin .rem .u32 (.v 2) (.c 8)) (.c 4)), false), ((Sy.B.eq (.bin .rem .u32 (.v 2) (.c 8)) (.c 3)), false), ((Sy.B.eq (.bin .rem .u32 (.v 2) (.c 8)) (.c 2)), false), ((Sy.B.eq (.bin .rem .u32 (.v 2) (.c 8)) (.c 1)), false), ((Sy.B.eq (.bin .rem .u32 (.v 2) (.c 8)) (.c 0)), false)] := Sy.holdsG_runH (by kernel_rfl) 100000 3 gl (tab := tab) (fun ρ _ => tab_ok ρ) (by kernel_rfl)
theorem run5 : Sy.HoldsG Tryz.prog 3 gl 9 sh [((Sy.B.eq (.bin .rem .u32 (.v 2) (.c 8)) (.c 4)), false), ((Sy.B.eq (.bin .rem .u32 (.v 2) (.c 8)) (.c 3)), false), ((Sy.B.eq (.bin .rem .u32 (.v 2) (.c 8)) (.c 2)), false), ((Sy.B.eq (.bin .rem .u32 (.v 2) (.c 8)) (.c 1)), false), ((Sy.B.eq (.bin .rem .u32 (.v 2) (.c 8)) (.c 0)), false)] := Sy.holdsG_split (Sy.B.eq (.bin .rem .u32 (.v 2) (.c 8)) (.c 5)) run5x run6
theorem run4x : Sy.HoldsG Tryz.prog 3 gl 9 sh [((Sy.B.eq (.bin .rem .u32 (.v 2) (.c 8)) (.c 4)), true), ((Sy.B.eq (.bin .rem .u32 (.v 2) (.c 8)) (.c 3)), false), ((Sy.B.eq (.bin .rem .u32 (.v 2) (.c 8)) (.c 2)), false), ((Sy.B.eq (.bin .rem .u32 (.v 2) (.c 8)) (.c 1)), false), ((Sy.B.eq (.bin .rem .u32 (.v 2) (.c 8)) (.c 0)), false)] := Sy.holdsG_runH (by kernel_rfl) 100000 3 gl (tab := tab) (fun ρ _ => tab_ok ρ) (by kernel_rfl)
theorem run4 : Sy.HoldsG Tryz.prog 3 gl 9 sh [((Sy.B.eq (.bin .rem .u32 (.v 2) (.c 8)) (.c 3)), false), ((Sy.B.eq (.bin .rem .u32 (.v 2) (.c 8)) (.c 2)), false), ((Sy.B.eq (.bin .rem .u32 (.v 2) (.c 8)) (.c 1)), false), ((Sy.B.eq (.bin .rem .u32 (.v 2) (.c 8)) (.c 0)), false)] := Sy.holdsG_split (Sy.B.eq (.bin .rem .u32 (.v 2) (.c 8)) (.c 4)) run4x run5
theorem run3x : Sy.HoldsG Tryz.prog 3 gl 9 sh [((Sy.B.eq (.bin .rem .u32 (.v 2) (.c 8)) (.c 3)), true), ((Sy.B.eq (.bin .rem .u32 (.v 2) (.c 8)) (.c 2)), false), ((Sy.B.eq (.bin .rem .u32 (.v 2) (.c 8)) (.c 1)), false), ((Sy.B.eq (.bin .rem .u32 (.v 2) (.c 8)) (.c 0)), false)] := Sy.holdsG_runH (by kernel_rfl) 100000 3 gl (tab := tab) (fun ρ _ => tab_ok ρ) (by kernel_rfl)
theorem run3 : Sy.HoldsG Tryz.prog 3 gl 9 sh [((Sy.B.eq (.bin .rem .u32 (.v 2) (.c 8)) (.c 2)), false), ((Sy.B.eq (.bin .rem .u32 (.v 2) (.c 8)) (.c 1)), false), ((Sy.B.eq (.bin .rem .u32 (.v 2) (.c 8)) (.c 0)), false)] := Sy.holdsG_split (Sy.B.eq (.bin .rem .u32 (.v 2) (.c 8)) (.c 3)) run3x run4
theorem run2x : Sy.HoldsG Tryz.prog 3 gl 9 sh [((Sy.B.eq (.bin .rem .u32 (.v 2) (.c 8)) (.c 2)), true), ((Sy.B.eq (.bin .rem .u32 (.v 2) (.c 8)) (.c 1)), false), ((Sy.B.eq (.bin .rem .u32 (.v 2) (.c 8)) (.c 0)), false)] := Sy.holdsG_runH (by kernel_rfl) 100000 3 gl (tab := tab) (fun ρ _ => tab_ok ρ) (by kernel_rfl)
theorem run2 : Sy.HoldsG Tryz.prog 3 gl 9 sh [((Sy.B.eq (.bin .rem .u32 (.v 2) (.c 8)) (.c 1)), false), ((Sy.B.eq (.bin .rem .u32 (.v 2) (.c 8)) (.c 0)), false)] := Sy.holdsG_split (Sy.B.eq (.bin .rem .u32 (.v 2) (.c 8)) (.c 2)) run2x run3
theorem run1x : Sy.HoldsG Tryz.prog 3 gl 9 sh [((Sy.B.eq (.bin .rem .u32 (.v 2) (.c 8)) (.c 1)), true), ((Sy.B.eq (.bin .rem .u32 (.v 2) (.c 8)) (.c 0)), false)] := Sy.holdsG_runH (by kernel_rfl) 100000 3 gl (tab := tab) (fun ρ _ => tab_ok ρ) (by kernel_rfl)
theorem run1 : Sy.HoldsG Tryz.prog 3 gl 9 sh [((Sy.B.eq (.bin .rem .u32 (.v 2) (.c 8)) (.c 0)), false)] := Sy.holdsG_split (Sy.B.eq (.bin .rem .u32 (.v 2) (.c 8)) (.c 1)) run1x run2
theorem run0x : Sy.HoldsG Tryz.prog 3 gl 9 sh [((Sy.B.eq (.bin .rem .u32 (.v 2) (.c 8)) (.c 0)), true)] := Sy.holdsG_runH (by kernel_rfl) 100000 3 gl (tab := tab) (fun ρ _ => tab_ok ρ) (by kernel_rfl)
theorem run0 : Sy.HoldsG Tryz.prog 3 gl 9 sh [] := Sy.holdsG_split (Sy.B.eq (.bin .rem .u32 (.v 2) (.c 8)) (.c 0)) run0x run1

set_option maxRecDepth 100000 in
theorem owed : OwedT Tryz.prog 9 Tryz.f9 (laidMetH Tryz.prog Rows.hartCallsRow.laid) := by
  intro H enc W base args ds p hL hval hA
  rw [Tryz.params9] at hval hA
  obtain ⟨hl, _⟩ := trodAll_len _ _ _ _ hA
  obtain ⟨v0, v1, v2, rfl⟩ : ∃ v0 v1 v2, args = #[v0, v1, v2] := by
    obtain ⟨l⟩ := args
    match l, hl with
    | [v0, v1, v2], _ => exact ⟨v0, v1, v2, rfl⟩
  obtain ⟨_, _, _, _, h0, r0⟩ := trodAll_head (v := v0) (vs := [v1, v2]) hA
  obtain ⟨_, _, _, _, h1, r1⟩ := trodAll_head (v := v1) (vs := [v2]) r0
  obtain ⟨_, _, _, _, h2, r2⟩ := trodAll_head (v := v2) (vs := []) r1
  clear r2
  have hv0 := hval 0 4 v0 rfl rfl
  have hv1 := hval 1 4 v1 rfl rfl
  have hv2 := hval 2 5 v2 rfl rfl
  clear hval hA
  exact Sy.calls_holdsG (l := sh) [v0, v1, v2] ⟨Sy.open_bool_ok Tryz.underlying4 hv0, Sy.open_bool_ok Tryz.underlying4 hv1, open_int_ok Tryz.underlying5 hv2, trivial⟩ run0 W (globs hL)

theorem own : ownKnob Tryz.prog.godebug = none := by kernel_rfl
theorem laidOut : laidOutB Tryz.prog = true := by kernel_rfl
theorem door_met (os : Os) (args : Array Value) : laidMetH Tryz.prog Rows.hartCallsRow.laid ((World.doorLaid Tryz.prog 400 os).forCall (fun _ _ => 0) ⟨#[], args, []⟩).memory :=
  laidMetH_of_parts3 (fuel := 8) (laidMet_of_run' 8 (by kernel_rfl) (by kernel_rfl)) (by kernel_rfl) (by kernel_rfl)

set_option maxRecDepth 100000 in
theorem lifted (os : Os) (started : os.Started) (H : Type) (enc : TypeId × Value → H) :
    ReturnsInHanded {} Tryz.checked os 9 .any (fun w args => (Rows.hartCallsSpec.pre enc Tryz.prog Tryz.f9 Rows.hartCallsRow.domain false w args ∧ laidMetH Tryz.prog Rows.hartCallsRow.laid w) ∧ sizedMet enc Tryz.prog Tryz.f9 (OpenSpec.ofChange Rows.hartCallsSpec) false w args)
      (Rows.hartCallsSpec.post enc Tryz.prog Tryz.f9 false true false false) := by
  refine law_tied (C := Tryz.checked) (tb := 4) own started (by kernel_rfl) Tryz.func9
    (ChangeSpec.witness_shaped (enc := enc) (C := Tryz.checked) (os := os) (X := fun w _ => laidMetH Tryz.prog Rows.hartCallsRow.laid w) false (World.doorLaid Tryz.prog 400 os) #[.bool false, .bool false, .int .u8 0] 8 rfl (World.shaped_of_RefB (by kernel_rfl) (by kernel_rfl)) (by kernel_rfl) (by kernel_rfl) (by kernel_rfl) (door_met os _))
    rfl Tryz.underlying4 rfl ?_ laidOut (of_decide_eq_true (by kernel_rfl)) owed
  intro ds hl
  match ds, hl with
  | [a, b, c], _ => exact ⟨rfl, rfl, rfl⟩

theorem over : Rows.hartCallsRow.holds Tryz.pinned (OpenSpec.ofChange Rows.hartCallsSpec) :=
  OpenClaim.holds_of_wide 9 Tryz.f9 rfl rfl rfl rfl rfl rfl rfl ⟨rfl, rfl, rfl, rfl, rfl⟩ rfl rfl rfl rfl rfl (by kernel_rfl) Tryz.func9 (by kernel_rfl)
    (of_decide_eq_true (by kernel_rfl)) (by unfold Func.isWrapper; first | (rw [if_pos (by decide +kernel)]; kernel_rfl) | (rw [if_neg (by decide +kernel)]; exact ⟨rfl, rfl⟩))
    (fun os started H enc _ => lifted os started H enc)

theorem proved : Rows.HartCallsCardSaid :=
  Claim7.holds_tied_plain_at .later [] [.data, .data, .data] true (true, "78edcb684109728d7a314d77ed62bcf9b9a4a18a23a89d810ea213b920f1d2a7") true
    over (fun _ h => by cases h) (by kernel_rfl) (fun _ h => by cases h) hartCalls_row_tie rfl ⟨rfl, rfl⟩ (by kernel_rfl) rfl
    (fun f fn hf hfn => by
      obtain rfl : f = 9 := Option.some.inj ((show Tryz.prog.funcNamed "dioptra/dioptralaw19.HartCalls" = some 9 by kernel_rfl).symm.trans hf) |>.symm
      obtain rfl : fn = Tryz.f9 := (Option.some.inj (Tryz.func9.symm.trans hfn)).symm
      exact ⟨by kernel_rfl, fun j t ht => by
        have hall : (Tryz.f9.params.toList.all fun u => !Tryz.prog.wantsStandIn u) = true := by kernel_rfl
        have hm : t ∈ Tryz.f9.params.toList := by simpa using Array.mem_of_getElem? ht
        have h1 : Tryz.prog.wantsStandIn t = false := by simpa using List.all_eq_true.1 hall t hm
        exact h1⟩)
    (by kernel_rfl)
end hartCalls
#print axioms hartCalls.proved
end Go.Proofs.YtoiadmdnfcgckaaGreatDoor
