/- The statement MachineBoots: a machine boots just with words that may be, and an image that has room; a nil one does nothing. No condition. -/
import Derived.Test.YtnjenhdfeeonoaaGreatDoorCards
import Derived.Test.YtnjenhdfeeonoaaGreatDoorTie
import Derived.Test.YtnjenhdfeeonoaaGreatDoorArgs
import Derived.Test.YtnjenhdfeeonoaaGreatDoorMachA
namespace Go.Proofs.YtnjenhdfeeonoaaGreatDoor
open Go.RowKit Go.ChangeShapes Go.WideShapes Go.ChangeAt
set_option maxHeartbeats 4000000

namespace machineBoots
open machA
abbrev tab : List Sy.HE := [aliveE]
theorem tab_ok (ρ : Nat → Int) : ∀ h ∈ tab, Sy.EntryOk Tryz.prog 3 gl ρ h := by
  intro h hh
  simp only [tab, List.mem_cons, List.not_mem_nil, or_false] at hh
  subst hh
  exact alive ρ
abbrev ks : List Sy.Ck := [.i .i64, .s]
abbrev cols : List (IntKind × Nat) := [(.u32, 0)]
theorem runt : Sy.HoldsL Tryz.prog 3 gl 7 ks 1 cols true [] := Sy.holdsL_runX (by kernel_rfl) 100000 3 gl (tab := tab) (fun ρ _ => tab_ok ρ) (by kernel_rfl) (by kernel_rfl)
theorem runf : Sy.HoldsL Tryz.prog 3 gl 7 ks 1 cols false [] := Sy.holdsL_runX (by kernel_rfl) 100000 3 gl (tab := tab) (fun ρ _ => tab_ok ρ) (by kernel_rfl) (by kernel_rfl)

set_option maxRecDepth 100000 in
theorem owed : OwedT Tryz.prog 7 Tryz.f7 (laidMetH Tryz.prog Rows.machineBootsRow.laid) := by
  intro H enc W base args ds p hL hval hA
  rw [Tryz.params7] at hval hA
  obtain ⟨hl, _⟩ := trodAll_len _ _ _ _ hA
  obtain ⟨v0, v1, rfl⟩ : ∃ v0 v1, args = #[v0, v1] := by
    obtain ⟨l⟩ := args
    match l, hl with
    | [v0, v1], _ => exact ⟨v0, v1, rfl⟩
  obtain ⟨_, _, _, _, h0, r0⟩ := trodAll_head (v := v0) (vs := [v1]) hA
  obtain ⟨_, _, _, _, h1, r1⟩ := trodAll_head (v := v1) (vs := []) r0
  clear r1
  have hv0 := hval 0 3 v0 rfl rfl
  have hv1 := hval 1 27 v1 rfl rfl
  clear hval hA
  have hr : ∀ b off n cap, ([v0, v1] : List Value)[1]? = some (.slice (some ⟨b, off, none⟩) n cap) → ∃ ws, Sy.RowAt W b off n cols ws := by
    intro b off n cap hs
    obtain rfl : v1 = .slice (some ⟨b, off, none⟩) n cap := by simpa using hs
    obtain ⟨fu, hf⟩ := h1
    exact Sy.row_of Tryz.underlying27 Tryz.underlying23 (by kernel_rfl) (Sy.sl_shape Tryz.underlying27 hv1) hf
  exact Sy.calls_holdsL (ks := ks) (wi := 1) (cs := [v0, v1]) rfl rfl ⟨open_int_ok Tryz.underlying3 hv0, Sy.sl_fits Tryz.underlying27 hv1, trivial⟩ (fun nil => by cases nil; exact runf; exact runt) W hr (globs hL)

theorem own : ownKnob Tryz.prog.godebug = none := by kernel_rfl
theorem laidOut : laidOutB Tryz.prog = true := by kernel_rfl
theorem door_met (os : Os) (args : Array Value) : laidMetH Tryz.prog Rows.machineBootsRow.laid ((World.doorLaid Tryz.prog 400 os).forCall (fun _ _ => 0) ⟨#[], args, []⟩).memory :=
  laidMetH_of_parts3 (fuel := 8) (laidMet_of_run' 8 (by kernel_rfl) (by kernel_rfl)) (by kernel_rfl) (by kernel_rfl)

set_option maxRecDepth 100000 in
theorem lifted (os : Os) (started : os.Started) (H : Type) (enc : TypeId × Value → H) :
    ReturnsInHanded {} Tryz.checked os 7 .any (fun w args => (Rows.machineBootsSpec.pre enc Tryz.prog Tryz.f7 Rows.machineBootsRow.domain false w args ∧ laidMetH Tryz.prog Rows.machineBootsRow.laid w) ∧ sizedMet enc Tryz.prog Tryz.f7 (OpenSpec.ofChange Rows.machineBootsSpec) false w args)
      (Rows.machineBootsSpec.post enc Tryz.prog Tryz.f7 false true false false) := by
  refine law_tied (C := Tryz.checked) (tb := 4) own started (by kernel_rfl) Tryz.func7
    (ChangeSpec.witness_shaped (enc := enc) (C := Tryz.checked) (os := os) (X := fun w _ => laidMetH Tryz.prog Rows.machineBootsRow.laid w) false (World.doorLaid Tryz.prog 400 os) #[.int .i64 0, .slice none 0 0] 8 rfl (World.shaped_of_RefB (by kernel_rfl) (by kernel_rfl)) (by kernel_rfl) (by kernel_rfl) (by kernel_rfl) (door_met os _))
    rfl Tryz.underlying4 rfl ?_ laidOut (of_decide_eq_true (by kernel_rfl)) owed
  intro ds hl
  match ds, hl with
  | [a, b], _ => exact ⟨rfl, rfl, rfl⟩

theorem over : Rows.machineBootsRow.holds Tryz.pinned (OpenSpec.ofChange Rows.machineBootsSpec) :=
  OpenClaim.holds_of_wide 7 Tryz.f7 rfl rfl rfl rfl rfl rfl rfl ⟨rfl, rfl, rfl, rfl, rfl⟩ rfl rfl rfl rfl rfl (by kernel_rfl) Tryz.func7 (by kernel_rfl)
    (of_decide_eq_true (by kernel_rfl)) (by unfold Func.isWrapper; first | (rw [if_pos (by decide +kernel)]; kernel_rfl) | (rw [if_neg (by decide +kernel)]; exact ⟨rfl, rfl⟩))
    (fun os started H enc _ => lifted os started H enc)

theorem proved : Rows.MachineBootsCardSaid :=
  Claim7.holds_tied_plain_at .later [] [.data, .data, .data] true (true, "da73f74ef6906e9c6bb75e78509967c099d565e8fd6760d355e8eb56eccb0e61") true
    over (fun _ h => by cases h) (by kernel_rfl) (fun _ h => by cases h) machineBoots_row_tie rfl ⟨rfl, rfl⟩ (by kernel_rfl) rfl
    (fun f fn hf hfn => by
      obtain rfl : f = 7 := Option.some.inj ((show Tryz.prog.funcNamed "dioptra/dioptralaw20.MachineBoots" = some 7 by kernel_rfl).symm.trans hf) |>.symm
      obtain rfl : fn = Tryz.f7 := (Option.some.inj (Tryz.func7.symm.trans hfn)).symm
      exact ⟨by kernel_rfl, fun j t ht => by
        have hall : (Tryz.f7.params.toList.all fun u => !Tryz.prog.wantsStandIn u) = true := by kernel_rfl
        have hm : t ∈ Tryz.f7.params.toList := by simpa using Array.mem_of_getElem? ht
        have h1 : Tryz.prog.wantsStandIn t = false := by simpa using List.all_eq_true.1 hall t hm
        exact h1⟩)
    (by kernel_rfl)
end machineBoots
#print axioms machineBoots.proved
end Go.Proofs.YtnjenhdfeeonoaaGreatDoor
