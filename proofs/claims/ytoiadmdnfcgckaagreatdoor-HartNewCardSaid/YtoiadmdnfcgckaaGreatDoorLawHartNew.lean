/- The statement HartNew. -/
import Derived.Test.YtoiadmdnfcgckaaGreatDoorCards
import Derived.Test.YtoiadmdnfcgckaaGreatDoorTie
import Derived.Test.YtoiadmdnfcgckaaGreatDoorHartA
namespace Go.Proofs.YtoiadmdnfcgckaaGreatDoor
open Go.RowKit Go.ChangeShapes Go.WideShapes Go.ChangeAt
set_option maxHeartbeats 4000000

namespace hartNew
open hartA
abbrev tab : List Sy.HE := [aliveE]
theorem tab_ok (ρ : Nat → Int) : ∀ h ∈ tab, Sy.EntryOk Tryz.prog 3 gl ρ h := by
  intro h hh
  simp only [tab, List.mem_cons, List.not_mem_nil, or_false] at hh
  subst hh
  · exact alive ρ
def sh : List Sy.Sh := [.i .u32]
theorem run0 : Sy.HoldsG Tryz.prog 3 gl 4 sh [] := Sy.holdsG_runH (by kernel_rfl) 100000 3 gl (tab := tab) (fun ρ _ => tab_ok ρ) (by kernel_rfl)

set_option maxRecDepth 100000 in
theorem owed : OwedT Tryz.prog 4 Tryz.f4 (laidMetH Tryz.prog Rows.hartNewRow.laid) := by
  intro H enc W base args ds p hL hval hA
  rw [Tryz.params4] at hval hA
  obtain ⟨hl, _⟩ := trodAll_len _ _ _ _ hA
  obtain ⟨v0, rfl⟩ : ∃ v0, args = #[v0] := by
    obtain ⟨l⟩ := args
    match l, hl with
    | [v0], _ => exact ⟨v0, rfl⟩
  obtain ⟨_, _, _, _, h0, r0⟩ := trodAll_head (v := v0) (vs := []) hA
  clear r0
  have hv0 := hval 0 22 v0 rfl rfl
  clear hval hA
  exact Sy.calls_holdsG (l := sh) [v0] ⟨open_int_ok Tryz.underlying22 hv0, trivial⟩ run0 W (globs hL)

theorem own : ownKnob Tryz.prog.godebug = none := by kernel_rfl
theorem laidOut : laidOutB Tryz.prog = true := by kernel_rfl
theorem door_met (os : Os) (args : Array Value) : laidMetH Tryz.prog Rows.hartNewRow.laid ((World.doorLaid Tryz.prog 400 os).forCall (fun _ _ => 0) ⟨#[], args, []⟩).memory :=
  laidMetH_of_parts3 (fuel := 8) (laidMet_of_run' 8 (by kernel_rfl) (by kernel_rfl)) (by kernel_rfl) (by kernel_rfl)

set_option maxRecDepth 100000 in
theorem lifted (os : Os) (started : os.Started) (H : Type) (enc : TypeId × Value → H) :
    ReturnsInHanded {} Tryz.checked os 4 .any (fun w args => (Rows.hartNewSpec.pre enc Tryz.prog Tryz.f4 Rows.hartNewRow.domain false w args ∧ laidMetH Tryz.prog Rows.hartNewRow.laid w) ∧ sizedMet enc Tryz.prog Tryz.f4 (OpenSpec.ofChange Rows.hartNewSpec) false w args)
      (Rows.hartNewSpec.post enc Tryz.prog Tryz.f4 false true false false) := by
  refine law_tied (C := Tryz.checked) (tb := 4) own started (by kernel_rfl) Tryz.func4
    (ChangeSpec.witness_shaped (enc := enc) (C := Tryz.checked) (os := os) (X := fun w _ => laidMetH Tryz.prog Rows.hartNewRow.laid w) false (World.doorLaid Tryz.prog 400 os) #[.int .u32 0] 8 rfl (World.shaped_of_RefB (by kernel_rfl) (by kernel_rfl)) (by kernel_rfl) (by kernel_rfl) (by kernel_rfl) (door_met os _))
    rfl Tryz.underlying4 rfl ?_ laidOut (of_decide_eq_true (by kernel_rfl)) owed
  intro ds hl
  match ds, hl with
  | [a], _ => exact ⟨rfl, rfl, rfl⟩

theorem over : Rows.hartNewRow.holds Tryz.pinned (OpenSpec.ofChange Rows.hartNewSpec) :=
  OpenClaim.holds_of_wide 4 Tryz.f4 rfl rfl rfl rfl rfl rfl rfl ⟨rfl, rfl, rfl, rfl, rfl⟩ rfl rfl rfl rfl rfl (by kernel_rfl) Tryz.func4 (by kernel_rfl)
    (of_decide_eq_true (by kernel_rfl)) (by unfold Func.isWrapper; first | (rw [if_pos (by decide +kernel)]; kernel_rfl) | (rw [if_neg (by decide +kernel)]; exact ⟨rfl, rfl⟩))
    (fun os started H enc _ => lifted os started H enc)

theorem proved : Rows.HartNewCardSaid :=
  Claim7.holds_tied_plain_at .later [] [.data, .data, .data] true (true, "78edcb684109728d7a314d77ed62bcf9b9a4a18a23a89d810ea213b920f1d2a7") true
    over (fun _ h => by cases h) (by kernel_rfl) (fun _ h => by cases h) hartNew_row_tie rfl ⟨rfl, rfl⟩ (by kernel_rfl) rfl
    (fun f fn hf hfn => by
      obtain rfl : f = 4 := Option.some.inj ((show Tryz.prog.funcNamed "dioptra/dioptralaw19.HartNew" = some 4 by kernel_rfl).symm.trans hf) |>.symm
      obtain rfl : fn = Tryz.f4 := (Option.some.inj (Tryz.func4.symm.trans hfn)).symm
      exact ⟨by kernel_rfl, fun j t ht => by
        have hall : (Tryz.f4.params.toList.all fun u => !Tryz.prog.wantsStandIn u) = true := by kernel_rfl
        have hm : t ∈ Tryz.f4.params.toList := by simpa using Array.mem_of_getElem? ht
        have h1 : Tryz.prog.wantsStandIn t = false := by simpa using List.all_eq_true.1 hall t hm
        exact h1⟩)
    (by kernel_rfl)
end hartNew
#print axioms hartNew.proved
end Go.Proofs.YtoiadmdnfcgckaaGreatDoor
