/- The statement HartQuiet. -/
import Derived.Test.YtoiadmdnfcgckaaGreatDoorCards
import Derived.Test.YtoiadmdnfcgckaaGreatDoorTie
import Derived.Test.YtoiadmdnfcgckaaGreatDoorRowH
import Derived.Test.YtoiadmdnfcgckaaGreatDoorHartA
namespace Go.Proofs.YtoiadmdnfcgckaaGreatDoor
open Go.RowKit Go.ChangeShapes Go.WideShapes Go.ChangeAt
set_option maxHeartbeats 4000000

namespace hartQuiet
open hartA
abbrev tab : List Sy.HE := [aliveE]
theorem tab_ok (ρ : Nat → Int) : ∀ h ∈ tab, Sy.EntryOk Tryz.prog 3 gl ρ h := by
  intro h hh
  simp only [tab, List.mem_cons, List.not_mem_nil, or_false] at hh
  subst hh
  exact alive ρ

def specW : FuncId → Option (Nat → Option Sy.LS) := fun f => match Nat.beq f 17 with
  | true => some (Sy.rowsSpec 0 5)
  | false => none
theorem wordsRun : Sy.topCall Tryz.prog Sy.noH 100000 1 specW Sy.rowsG 17 Sy.rowsArgs Sy.rowsM = true := by kernel_rfl
noncomputable abbrev hook : Sy.Hook := Sy.orH (Sy.hookN 3 gl tab) (Sy.eqRows 17)
theorem hook_ok (ρ : Nat → Int) : Sy.HookOk Tryz.prog hook ρ := Sy.orH_ok (Sy.hookN_ok (tab_ok ρ)) (Sy.eqRows_ok (by kernel_rfl) wordsRun ρ)
abbrev ks : List Sy.Ck := [.i .u32, .i .u32, .i .u32, .i .u32, .i .u32, .i .u32, .i .u32, .i .u32, .i .u32, .i .u32, .i .u32, .i .u32, .i .u32, .i .u32, .i .u32, .i .u32, .i .u64, .i .i64, .i .u32, .i .u32, .i .u32, .i .u32, .i .u32, .i .u32, .i .u32, .i .u32, .i .u32, .i .u32, .i .u32, .i .u32, .i .u32, .i .u32, .i .u32, .i .u32, .i .u32, .i .u32, .i .u32, .i .u32, .i .u32, .i .u32, .i .u32, .i .u32, .i .u32, .i .u32, .i .u32, .i .u32, .i .u32, .i .u32, .i .u32, .i .u32, .i .u32, .i .u32, .b, .b, .i .u32, .s]
abbrev sh : List Sy.Sh := [.i .u8]
abbrev cols : List (IntKind × Nat) := [(.u32, 0)]
def loops : Nat → Option Sy.LS := fun b => match Nat.beq b 0 with
  | true => some { vars := [(.slot 29, 0, 255)], slots := [], cells := [], gone := [], facts := [(.lt (.v 56) (.v 57), false)], falls := (.v 57, .v 56), ats := [(8, 16, some (.int .u64 (.d (.wrap .u64 (.bin .add .u64 (.v 16) (.v 57))))))] }
  | false => none
def specs : FuncId → Option (Nat → Option Sy.LS) := fun f => match Nat.beq f 5 with
  | true => some loops
  | false => none
theorem runt : Sy.HoldsA Tryz.prog 3 gl 5 ks sh 55 cols true [] := Sy.holdsA_run (by kernel_rfl) hook hook_ok 100000 1 3 gl specs (by kernel_rfl) (by kernel_rfl)
theorem runf0 : Sy.HoldsA Tryz.prog 3 gl 5 ks sh 55 cols false [(.eq (.v 55) (.c 0), true)] := Sy.holdsA_run (by kernel_rfl) hook hook_ok 100000 1 3 gl specs (by kernel_rfl) (by kernel_rfl)
theorem runf1 : Sy.HoldsA Tryz.prog 3 gl 5 ks sh 55 cols false [(.eq (.v 55) (.c 0), false)] := Sy.holdsA_run (by kernel_rfl) hook hook_ok 100000 1 3 gl specs (by kernel_rfl) (by kernel_rfl)
theorem runf : Sy.HoldsA Tryz.prog 3 gl 5 ks sh 55 cols false [] := Sy.holdsA_split (.eq (.v 55) (.c 0)) runf0 runf1

abbrev ts : List TypeId := [22, 22, 22, 22, 22, 22, 22, 22, 22, 22, 22, 22, 22, 22, 22, 22, 23, 3, 22, 22, 22, 22, 22, 22, 22, 22, 22, 22, 22, 22, 22, 22, 22, 22, 22, 22, 22, 22, 22, 22, 22, 22, 22, 22, 22, 22, 22, 22, 22, 22, 22, 22, 4, 4, 22, 29]
set_option maxRecDepth 100000 in
theorem owed : OwedT Tryz.prog 5 Tryz.f5 (laidMetH Tryz.prog Rows.hartQuietRow.laid) := by
  intro H enc W base args ds p hL hval hA
  rw [Tryz.params5] at hval hA
  obtain ⟨hl, _⟩ := trodAll_len _ _ _ _ hA
  obtain ⟨v0, v1, rfl⟩ : ∃ v0 v1, args = #[v0, v1] := by
    obtain ⟨l⟩ := args
    match l, hl with
    | [v0, v1], _ => exact ⟨v0, v1, rfl⟩
  obtain ⟨_, _, _, _, h0, r0⟩ := trodAll_head (v := v0) (vs := [v1]) hA
  obtain ⟨_, _, _, _, h1, r1⟩ := trodAll_head (v := v1) (vs := []) r0
  clear r1
  have hv0 := hval 0 33 v0 rfl rfl
  have hv1 := hval 1 5 v1 rfl rfl
  clear hval hA
  have hts : Tryz.prog.cellTypes Tryz.prog.depth 33 = some ts := by kernel_rfl
  obtain ⟨cs, rfl, hc⟩ := Sy.open_ck (ks := ks) Tryz.underlying33 rfl hts (by kernel_rfl) (by kernel_rfl) hv0
  have hr : ∀ b off n cap, cs[55]? = some (.slice (some ⟨b, off, none⟩) n cap) → ∃ ws, Sy.RowAt W b off n cols ws := by
    intro b off n cap hs
    obtain ⟨fu, hf⟩ := h0
    have hcs : (Value.agg cs.toArray).cells.toList = cs := rfl
    rw [hcs] at hf
    obtain ⟨n1, y1, h1⟩ := Sy.trod_field' Tryz.underlying33 hf 5 rfl 31 54 2 rfl rfl (by kernel_rfl)
    obtain ⟨n2, y2, h2⟩ := Sy.trod_field' Tryz.underlying31 h1 1 rfl 29 1 1 rfl rfl (by kernel_rfl)
    rw [Sy.one_of (o := 54) (c := 2) (p := 1) hs rfl (by decide)] at h2
    exact Sy.row_of Tryz.underlying29 Tryz.underlying22 (by kernel_rfl) (Sy.shape_of Tryz.underlying33 rfl hts hv0 hs rfl Tryz.underlying29) h2
  exact Sy.calls_holdsA (l := sh) (ks := ks) (wi := 55) (vs := [v1]) rfl rfl hc ⟨open_int_ok Tryz.underlying5 hv1, trivial⟩ (fun nil => by cases nil; exact runf; exact runt) W hr (globs hL)

theorem own : ownKnob Tryz.prog.godebug = none := by kernel_rfl
theorem laidOut : laidOutB Tryz.prog = true := by kernel_rfl
theorem door_met (os : Os) (args : Array Value) : laidMetH Tryz.prog Rows.hartQuietRow.laid ((World.doorLaid Tryz.prog 400 os).forCall (fun _ _ => 0) ⟨#[], args, []⟩).memory :=
  laidMetH_of_parts3 (fuel := 8) (laidMet_of_run' 8 (by kernel_rfl) (by kernel_rfl)) (by kernel_rfl) (by kernel_rfl)

set_option maxRecDepth 100000 in
theorem lifted (os : Os) (started : os.Started) (H : Type) (enc : TypeId × Value → H) :
    ReturnsInHanded {} Tryz.checked os 5 .any (fun w args => (Rows.hartQuietSpec.pre enc Tryz.prog Tryz.f5 Rows.hartQuietRow.domain false w args ∧ laidMetH Tryz.prog Rows.hartQuietRow.laid w) ∧ sizedMet enc Tryz.prog Tryz.f5 (OpenSpec.ofChange Rows.hartQuietSpec) false w args)
      (Rows.hartQuietSpec.post enc Tryz.prog Tryz.f5 false true false false) := by
  refine law_tied (C := Tryz.checked) (tb := 4) own started (by kernel_rfl) Tryz.func5
    (ChangeSpec.witness_shaped (enc := enc) (C := Tryz.checked) (os := os) (X := fun w _ => laidMetH Tryz.prog Rows.hartQuietRow.laid w) false (World.doorLaid Tryz.prog 400 os) #[.agg #[.int .u32 0, .int .u32 0, .int .u32 0, .int .u32 0, .int .u32 0, .int .u32 0, .int .u32 0, .int .u32 0, .int .u32 0, .int .u32 0, .int .u32 0, .int .u32 0, .int .u32 0, .int .u32 0, .int .u32 0, .int .u32 0, .int .u64 0, .int .i64 0, .int .u32 0, .int .u32 0, .int .u32 0, .int .u32 0, .int .u32 0, .int .u32 0, .int .u32 0, .int .u32 0, .int .u32 0, .int .u32 0, .int .u32 0, .int .u32 0, .int .u32 0, .int .u32 0, .int .u32 0, .int .u32 0, .int .u32 0, .int .u32 0, .int .u32 0, .int .u32 0, .int .u32 0, .int .u32 0, .int .u32 0, .int .u32 0, .int .u32 0, .int .u32 0, .int .u32 0, .int .u32 0, .int .u32 0, .int .u32 0, .int .u32 0, .int .u32 0, .int .u32 0, .int .u32 0, .bool false, .bool false, .int .u32 0, .slice none 0 0], .int .u8 0] 8 rfl (World.shaped_of_RefB (by kernel_rfl) (by kernel_rfl)) (by kernel_rfl) (by kernel_rfl) (by kernel_rfl) (door_met os _))
    rfl Tryz.underlying4 rfl ?_ laidOut (of_decide_eq_true (by kernel_rfl)) owed
  intro ds hl
  match ds, hl with
  | [a, b], _ => exact ⟨rfl, rfl, rfl⟩

theorem over : Rows.hartQuietRow.holds Tryz.pinned (OpenSpec.ofChange Rows.hartQuietSpec) :=
  OpenClaim.holds_of_wide 5 Tryz.f5 rfl rfl rfl rfl rfl rfl rfl ⟨rfl, rfl, rfl, rfl, rfl⟩ rfl rfl rfl rfl rfl (by kernel_rfl) Tryz.func5 (by kernel_rfl)
    (of_decide_eq_true (by kernel_rfl)) (by unfold Func.isWrapper; first | (rw [if_pos (by decide +kernel)]; kernel_rfl) | (rw [if_neg (by decide +kernel)]; exact ⟨rfl, rfl⟩))
    (fun os started H enc _ => lifted os started H enc)

theorem proved : Rows.HartQuietCardSaid :=
  Claim7.holds_tied_plain_at .later [] [.data, .data, .data] true (true, "78edcb684109728d7a314d77ed62bcf9b9a4a18a23a89d810ea213b920f1d2a7") true
    over (fun _ h => by cases h) (by kernel_rfl) (fun _ h => by cases h) hartQuiet_row_tie rfl ⟨rfl, rfl⟩ (by kernel_rfl) rfl
    (fun f fn hf hfn => by
      obtain rfl : f = 5 := Option.some.inj ((show Tryz.prog.funcNamed "dioptra/dioptralaw19.HartQuiet" = some 5 by kernel_rfl).symm.trans hf) |>.symm
      obtain rfl : fn = Tryz.f5 := (Option.some.inj (Tryz.func5.symm.trans hfn)).symm
      exact ⟨by kernel_rfl, fun j t ht => by
        have hall : (Tryz.f5.params.toList.all fun u => !Tryz.prog.wantsStandIn u) = true := by kernel_rfl
        have hm : t ∈ Tryz.f5.params.toList := by simpa using Array.mem_of_getElem? ht
        have h1 : Tryz.prog.wantsStandIn t = false := by simpa using List.all_eq_true.1 hall t hm
        exact h1⟩)
    (by kernel_rfl)
end hartQuiet
#print axioms hartQuiet.proved
end Go.Proofs.YtoiadmdnfcgckaaGreatDoor
