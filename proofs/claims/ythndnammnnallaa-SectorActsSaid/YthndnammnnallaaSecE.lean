/- Walks of a sector device: a command. -/
import Derived.Test.YthndnammnnallaaSecD
namespace Go.Proofs.Ythndnammnnallaa
open Go.RowKit
set_option maxHeartbeats 4000000

/-- the buffer and the disk behind so many sectors of a command -/
def loopS (v F : Int) (s : List Int × List Int) : Nat → List Int × List Int
  | 0 => s
  | k + 1 => (oneB v (loopS v F s k).1 (loopS v F s k).2 (F.toNat + k) k, oneD v (loopS v F s k).1 (loopS v F s k).2 (F.toNat + k) k)
/-- what a command tells; the buffer and the disk behind it -/
def cmdE (F M : Int) (n : Nat) (v : Int) : Int := if v < 1 ∨ 4 < v then 1 else if v = 4 then 0 else if inS F M n then 0 else 2
def cmdS (F M : Int) (n : Nat) (v : Int) (B D : List Int) : List Int × List Int := if v < 1 ∨ 4 < v then (B, D) else if v = 4 then (B, D) else if inS F M n then loopS v F (B, D) M.toNat else (B, D)

set_option maxRecDepth 100000 in
theorem command_any {gd gm gl n : Nat} {F M E v : Int} {ln : Bool} {B D : List Int} {p : Nat} (hv : 0 ≤ v ∧ v < 4294967296) (w : World) (h : Dv w gd gm gl n F M E ln B p D) :
    Calls Try.prog 14 #[.pointer (some ⟨gd, 0, none⟩), .int .u32 v] w fun e w' => e = .returned (.int .u32 (cmdE F M n v)) ∧ Dv w' gd gm gl n F M E ln (cmdS F M n v B D).1 p (cmdS F M n v B D).2 ∧ Ch [gd, gm, gl] w w' := by
  have H := Lib.hid h
  have c2 : w.cell? ⟨gd, 2, none⟩ = some (.int .u32 M) := h.dev.cell 2
  clear h
  by_cases h1 : v < 1 ∨ 4 < v
  · have hE : cmdE F M n v = 1 := by unfold cmdE; rw [if_pos h1]
    have hS : cmdS F M n v B D = (B, D) := by unfold cmdS; rw [if_pos h1]
    rw [hE, hS]
    clear hE hS
    by_cases h2 : v < 1
    · have d1 : decide (v < (1 : Int)) = true := decide_eq_true h2
      clear h1 h2
      go_enter Try.func14, Try.ntmps14
      go_wp2_with fail
      go_ret
      exact ⟨rfl, H.out, Ch.refl _ _⟩
    · have d1 : decide (v < (1 : Int)) = false := decide_eq_false h2
      have d2 : decide ((4 : Int) < v) = true := decide_eq_true (by omega)
      clear h1 h2
      go_enter Try.func14, Try.ntmps14
      go_wp2_with fail
      go_ret
      exact ⟨rfl, H.out, Ch.refl _ _⟩
  · by_cases h4 : v = 4
    · have hE : cmdE F M n v = 0 := by unfold cmdE; rw [if_neg h1, if_pos h4]
      have hS : cmdS F M n v B D = (B, D) := by unfold cmdS; rw [if_neg h1, if_pos h4]
      rw [hE, hS]
      subst h4
      clear hE hS h1
      go_enter Try.func14, Try.ntmps14
      go_wp2_with fail
      go_ret
      exact ⟨rfl, H.out, Ch.refl _ _⟩
    · have d1 : decide (v < (1 : Int)) = false := decide_eq_false (by omega)
      have d2 : decide ((4 : Int) < v) = false := decide_eq_false (by omega)
      have d3 : (v == 4) = false := by rw [beq_eq_false_iff_ne]; exact h4
      have hv3 : v = 1 ∨ v = 2 ∨ v = 3 := by omega
      have HI := Lib.hid (in_any w H.out)
      by_cases hin : inS F M n = true
      · have hE : cmdE F M n v = 0 := by unfold cmdE; rw [if_neg h1, if_neg h4, if_pos hin]
        have hS : cmdS F M n v B D = loopS v F (B, D) M.toNat := by unfold cmdS; rw [if_neg h1, if_neg h4, if_pos hin]
        rw [hE, hS]
        have hin2 := hin
        rw [hin] at HI
        unfold inS at hin2
        rw [decide_eq_true_eq] at hin2
        obtain ⟨i1, i2, i3⟩ := hin2
        have hF := H.out.fr
        have hM := H.out.mr
        have hn := H.out.nl
        clear hE hS h1 h4 hin
        obtain ⟨m, rfl⟩ : ∃ m : Nat, M = m := ⟨M.toNat, by omega⟩
        obtain ⟨f0, rfl⟩ : ∃ m : Nat, F = m := ⟨F.toNat, by omega⟩
        rw [Int.toNat_natCast]
        go_enter Try.func14, Try.ntmps14
        go_wp2_with (first
          | (go_at_call 18; refine HI.out.mono ?_; rintro e w1 ⟨rfl, k1, rfl⟩
             have c2 : (w.drewN k1).cell? ⟨gd, 2, none⟩ = some (.int .u32 (m : Int)) := (H.out.drewN k1).dev.cell 2)
          | fail)
        have H2 := Lib.hid (H.out.drewN k1)
        clear c2
        go_loopw [26] (fun v26 wr => ∃ k : Nat, k ≤ m ∧ v26 = .int .i64 k ∧ Dv wr gd gm gl n f0 m E ln (loopS v f0 (B, D) k).1 p (loopS v f0 (B, D) k).2 ∧ Ch [gd, gm, gl] w wr) (fun i _ => m - (intOf i).toNat)
        case atStart => exact ⟨0, by omega, rfl, H2.out, (Ch.refl _ w).drewN _⟩
        case round =>
          obtain ⟨k, hk, rfl, hD, hC⟩ := hrel
          by_cases hlt : k < m
          · have h1 := fun j => one_any (i := f0 + k) hv3 (by omega) (by omega : k < 4) (wr.drewN j) (hD.drewN j)
            rw [show (((f0 + k : Nat)) : Int) = (f0 : Int) + k from by omega] at h1
            have c1 : wr.cell? ⟨gd, 1, none⟩ = some (.int .u32 f0) := hD.dev.cell 1
            have H1 := Lib.hid h1; have HC := Lib.hid hC; have HD := Lib.hid hD
            have hlt' : (k : Int) < (m : Int) := by omega
            have hw1 : IntKind.i64.wrap (f0 : Int) = f0 := IntWalk.i64_in _ (by omega)
            have hw2 : IntKind.i64.wrap ((f0 : Int) + k) = (f0 : Int) + k := IntWalk.i64_in _ (by omega)
            have hk4 : (k : Int) < 4 := by omega
            clear h1 hC hD
            go_wp2_with fail
            refine wp_region_tail_drew 14 (by kernel_rfl) (by kernel_rfl) ?_
            simp only [List.take_succ_cons, List.take_zero, List.drop_succ_cons, List.drop_zero]
            iterate 14 (first | ((with_reducible refine wpQuiet_step (fun K' hK' => ?_)); go_simp; (with_reducible refine hK' _ ?_); clear hK' K') | ((with_reducible refine wpQuiet_skip ?_ ?_); focus rfl))
            refine wpQuiet_nil ?_
            rintro w' ⟨nq, rfl⟩
            clear hw1 hw2 c1
            go_wp2_with (first
              | (go_at_call 19; refine (H1.out nq).mono ?_; rintro e w2 ⟨rfl, hd2, hc2⟩; have HD2 := Lib.hid hd2; have HC2 := Lib.hid hc2; clear hd2 hc2)
              | fail)
            exact ⟨⟨k + 1, by omega, by go_num, by simpa only [loopS, Int.toNat_natCast] using HD2.out, (HC.out.drewN nq).trans HC2.out⟩, by simp only [intOf]; omega⟩
          · obtain rfl : k = m := by omega
            have hd : decide ((k : Int) < (k : Int)) = false := by rw [decide_eq_false_iff_not]; omega
            have HC := Lib.hid hC; have HD := Lib.hid hD
            clear hC hD
            go_wp2_with fail
            go_ret
            exact ⟨rfl, HD.out, HC.out⟩
      · have hinf : inS F M n = false := by simpa using hin
        have hE : cmdE F M n v = 2 := by unfold cmdE; rw [if_neg h1, if_neg h4, if_neg hin]
        have hS : cmdS F M n v B D = (B, D) := by unfold cmdS; rw [if_neg h1, if_neg h4, if_neg hin]
        rw [hE, hS]
        rw [hinf] at HI
        clear hE hS h1 h4 hin hinf
        go_enter Try.func14, Try.ntmps14
        go_wp2_with (first
          | (go_at_call 18; refine HI.out.mono ?_; rintro e w1 ⟨rfl, k1, rfl⟩)
          | fail)
        go_ret
        exact ⟨rfl, H.out.drewN _, (Ch.refl _ w).drewN _⟩
end Go.Proofs.Ythndnammnnallaa
