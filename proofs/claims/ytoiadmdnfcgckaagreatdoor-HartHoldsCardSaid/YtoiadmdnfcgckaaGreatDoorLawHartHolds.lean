/- The statement HartHolds. -/
import Derived.Test.YtoiadmdnfcgckaaGreatDoorCards
import Derived.Test.YtoiadmdnfcgckaaGreatDoorTie
import Derived.Test.YtoiadmdnfcgckaaGreatDoorHartA
namespace Go.Proofs.YtoiadmdnfcgckaaGreatDoor
open Go.RowKit Go.ChangeShapes Go.WideShapes Go.ChangeAt
set_option maxHeartbeats 4000000

namespace hartHolds
open hartA
theorem w268476847 (ρ : Nat → Int) : Sy.EntryOk Tryz.prog 3 gl ρ ⟨35, false, [.int .u32 (.s 268476847)], .tup [.agg [.int .i64 (.s 46), .int .i64 (.s 3), .int .i64 (.s 1), .int .i64 (.s 0), .int .u32 (.s 0)], .bool (.s true)]⟩ := Sy.he_run0 (by kernel_rfl) 100000 (vs := []) (pc := []) (Sy.gok0 ρ) rfl rfl (by kernel_rfl)
theorem w404791855 (ρ : Nat → Int) : Sy.EntryOk Tryz.prog 3 gl ρ ⟨35, false, [.int .u32 (.s 404791855)], .tup [.agg [.int .i64 (.s 47), .int .i64 (.s 4), .int .i64 (.s 1), .int .i64 (.s 2), .int .u32 (.s 0)], .bool (.s true)]⟩ := Sy.he_run0 (by kernel_rfl) 100000 (vs := []) (pc := []) (Sy.gok0 ρ) rfl rfl (by kernel_rfl)
theorem w404955695 (ρ : Nat → Int) : Sy.EntryOk Tryz.prog 3 gl ρ ⟨35, false, [.int .u32 (.s 404955695)], .tup [.agg [.int .i64 (.s 47), .int .i64 (.s 4), .int .i64 (.s 6), .int .i64 (.s 2), .int .u32 (.s 0)], .bool (.s true)]⟩ := Sy.he_run0 (by kernel_rfl) 100000 (vs := []) (pc := []) (Sy.gok0 ρ) rfl rfl (by kernel_rfl)
theorem w404791983 (ρ : Nat → Int) : Sy.EntryOk Tryz.prog 3 gl ρ ⟨35, false, [.int .u32 (.s 404791983)], .tup [.agg [.int .i64 (.s 47), .int .i64 (.s 5), .int .i64 (.s 1), .int .i64 (.s 2), .int .u32 (.s 0)], .bool (.s true)]⟩ := Sy.he_run0 (by kernel_rfl) 100000 (vs := []) (pc := []) (Sy.gok0 ρ) rfl rfl (by kernel_rfl)
abbrev tab : List Sy.HE := [aliveE, ⟨35, false, [.int .u32 (.s 268476847)], .tup [.agg [.int .i64 (.s 46), .int .i64 (.s 3), .int .i64 (.s 1), .int .i64 (.s 0), .int .u32 (.s 0)], .bool (.s true)]⟩, ⟨35, false, [.int .u32 (.s 404791855)], .tup [.agg [.int .i64 (.s 47), .int .i64 (.s 4), .int .i64 (.s 1), .int .i64 (.s 2), .int .u32 (.s 0)], .bool (.s true)]⟩, ⟨35, false, [.int .u32 (.s 404955695)], .tup [.agg [.int .i64 (.s 47), .int .i64 (.s 4), .int .i64 (.s 6), .int .i64 (.s 2), .int .u32 (.s 0)], .bool (.s true)]⟩, ⟨35, false, [.int .u32 (.s 404791983)], .tup [.agg [.int .i64 (.s 47), .int .i64 (.s 5), .int .i64 (.s 1), .int .i64 (.s 2), .int .u32 (.s 0)], .bool (.s true)]⟩]
theorem tab_ok (ρ : Nat → Int) : ∀ h ∈ tab, Sy.EntryOk Tryz.prog 3 gl ρ h := by
  intro h hh
  simp only [tab, List.mem_cons, List.not_mem_nil, or_false] at hh
  rcases hh with rfl | rfl | rfl | rfl | rfl
  · exact alive ρ
  · exact w268476847 ρ
  · exact w404791855 ρ
  · exact w404955695 ρ
  · exact w404791983 ρ
def sh : List Sy.Sh := [.i .u32, .i .u32, .b]
theorem run0 : Sy.HoldsG Tryz.prog 3 gl 8 sh [] := Sy.holdsG_runH (by kernel_rfl) 100000 3 gl (tab := tab) (fun ρ _ => tab_ok ρ) (by kernel_rfl)

set_option maxRecDepth 100000 in
theorem owed : OwedT Tryz.prog 8 Tryz.f8 (laidMetH Tryz.prog Rows.hartHoldsRow.laid) := by
  intro H enc W base args ds p hL hval hA
  rw [Tryz.params8] at hval hA
  obtain ⟨hl, _⟩ := trodAll_len _ _ _ _ hA
  obtain ⟨v0, v1, v2, rfl⟩ : ∃ v0 v1 v2, args = #[v0, v1, v2] := by
    obtain ⟨l⟩ := args
    match l, hl with
    | [v0, v1, v2], _ => exact ⟨v0, v1, v2, rfl⟩
  obtain ⟨_, _, _, _, h0, r0⟩ := trodAll_head (v := v0) (vs := [v1, v2]) hA
  obtain ⟨_, _, _, _, h1, r1⟩ := trodAll_head (v := v1) (vs := [v2]) r0
  obtain ⟨_, _, _, _, h2, r2⟩ := trodAll_head (v := v2) (vs := []) r1
  clear r2
  have hv0 := hval 0 22 v0 rfl rfl
  have hv1 := hval 1 22 v1 rfl rfl
  have hv2 := hval 2 4 v2 rfl rfl
  clear hval hA
  exact Sy.calls_holdsG (l := sh) [v0, v1, v2] ⟨open_int_ok Tryz.underlying22 hv0, open_int_ok Tryz.underlying22 hv1, Sy.open_bool_ok Tryz.underlying4 hv2, trivial⟩ run0 W (globs hL)

theorem own : ownKnob Tryz.prog.godebug = none := by kernel_rfl
theorem laidOut : laidOutB Tryz.prog = true := by kernel_rfl
theorem door_met (os : Os) (args : Array Value) : laidMetH Tryz.prog Rows.hartHoldsRow.laid ((World.doorLaid Tryz.prog 400 os).forCall (fun _ _ => 0) ⟨#[], args, []⟩).memory :=
  laidMetH_of_parts3 (fuel := 8) (laidMet_of_run' 8 (by kernel_rfl) (by kernel_rfl)) (by kernel_rfl) (by kernel_rfl)

set_option maxRecDepth 100000 in
theorem lifted (os : Os) (started : os.Started) (H : Type) (enc : TypeId × Value → H) :
    ReturnsInHanded {} Tryz.checked os 8 .any (fun w args => (Rows.hartHoldsSpec.pre enc Tryz.prog Tryz.f8 Rows.hartHoldsRow.domain false w args ∧ laidMetH Tryz.prog Rows.hartHoldsRow.laid w) ∧ sizedMet enc Tryz.prog Tryz.f8 (OpenSpec.ofChange Rows.hartHoldsSpec) false w args)
      (Rows.hartHoldsSpec.post enc Tryz.prog Tryz.f8 false true false false) := by
  refine law_tied (C := Tryz.checked) (tb := 4) own started (by kernel_rfl) Tryz.func8
    (ChangeSpec.witness_shaped (enc := enc) (C := Tryz.checked) (os := os) (X := fun w _ => laidMetH Tryz.prog Rows.hartHoldsRow.laid w) false (World.doorLaid Tryz.prog 400 os) #[.int .u32 0, .int .u32 0, .bool false] 8 rfl (World.shaped_of_RefB (by kernel_rfl) (by kernel_rfl)) (by kernel_rfl) (by kernel_rfl) (by kernel_rfl) (door_met os _))
    rfl Tryz.underlying4 rfl ?_ laidOut (of_decide_eq_true (by kernel_rfl)) owed
  intro ds hl
  match ds, hl with
  | [a, b, c], _ => exact ⟨rfl, rfl, rfl⟩

theorem over : Rows.hartHoldsRow.holds Tryz.pinned (OpenSpec.ofChange Rows.hartHoldsSpec) :=
  OpenClaim.holds_of_wide 8 Tryz.f8 rfl rfl rfl rfl rfl rfl rfl ⟨rfl, rfl, rfl, rfl, rfl⟩ rfl rfl rfl rfl rfl (by kernel_rfl) Tryz.func8 (by kernel_rfl)
    (of_decide_eq_true (by kernel_rfl)) (by unfold Func.isWrapper; first | (rw [if_pos (by decide +kernel)]; kernel_rfl) | (rw [if_neg (by decide +kernel)]; exact ⟨rfl, rfl⟩))
    (fun os started H enc _ => lifted os started H enc)

theorem proved : Rows.HartHoldsCardSaid :=
  Claim7.holds_tied_plain_at .later [] [.data, .data, .data] true (true, "78edcb684109728d7a314d77ed62bcf9b9a4a18a23a89d810ea213b920f1d2a7") true
    over (fun _ h => by cases h) (by kernel_rfl) (fun _ h => by cases h) hartHolds_row_tie rfl ⟨rfl, rfl⟩ (by kernel_rfl) rfl
    (fun f fn hf hfn => by
      obtain rfl : f = 8 := Option.some.inj ((show Tryz.prog.funcNamed "dioptra/dioptralaw19.HartHolds" = some 8 by kernel_rfl).symm.trans hf) |>.symm
      obtain rfl : fn = Tryz.f8 := (Option.some.inj (Tryz.func8.symm.trans hfn)).symm
      exact ⟨by kernel_rfl, fun j t ht => by
        have hall : (Tryz.f8.params.toList.all fun u => !Tryz.prog.wantsStandIn u) = true := by kernel_rfl
        have hm : t ∈ Tryz.f8.params.toList := by simpa using Array.mem_of_getElem? ht
        have h1 : Tryz.prog.wantsStandIn t = false := by simpa using List.all_eq_true.1 hall t hm
        exact h1⟩)
    (by kernel_rfl)
end hartHolds
#print axioms hartHolds.proved
end Go.Proofs.YtoiadmdnfcgckaaGreatDoor
