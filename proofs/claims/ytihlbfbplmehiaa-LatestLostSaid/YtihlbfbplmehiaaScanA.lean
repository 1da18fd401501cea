/- Walks of package scan: the pages of a block, one behind the other. -/
import Derived.Test.YtihlbfbplmehiaaPageE
import Derived.Test.YtihlbfbplmehiaaMemIn
namespace Go.Proofs.Ytihlbfbplmehiaa
open Go.RowKit Go.Shelf
set_option maxHeartbeats 1000000
attribute [local go_sem] Oper.semAt_some

/-- the slice of a block's page -/
def pageSl (b off cap i : Nat) : Value := .slice (some ⟨b, off + (4 + 7 * i), none⟩) 7 (cap - (4 + 7 * i))

/-- the first k numbers of eight -/
def up8 (k : Nat) : List (Fin 8) := (List.finRange 8).take k
theorem up8_succ {k : Nat} (h : k < 8) : up8 (k + 1) = up8 k ++ [⟨k, h⟩] := by
  have : ∀ i : Fin 8, up8 (i.1 + 1) = up8 i.1 ++ [i] := by decide
  exact this ⟨k, h⟩
theorem up8_length {k : Nat} (h : k ≤ 8) : (up8 k).length = k := by simp [up8]; omega

def pageEnc (b off cap : Nat) (x : Fin 8) : Array Value := #[.int .i64 (x.1 : Int), pageSl b off cap x.1]

set_option maxRecDepth 100000 in
theorem pages1_in (l Bs b off cap : Nat) (tB : TypeId) (hcap : 64 ≤ cap) (hc63 : cap ≤ 9223372036854775807) (J Jx : List (Fin 8) → World → Prop)
    (hY : ∀ (pre : List (Fin 8)) (x : Fin 8) W, J pre W → pre.length < 8 → YieldAt Fence.wide 8 Try.prog l #[.int .i64 (x.1 : Int), pageSl b off cap x.1] W fun e W' =>
      (e = .returned (.bool true) ∧ J (pre ++ [x]) W' ∧ KeepBlk Bs W W') ∨ (e = .returned (.bool false) ∧ Jx (pre ++ [x]) W'))
    (W : World) (hBs : At W Bs [.slice (some ⟨b, off, none⟩) 64 cap] tB) (h0 : J [] W) :
    CallsIn Fence.wide 9 Try.prog 49 #[.func (.yield l) #[] #[], .pointer (some ⟨Bs, 0, none⟩)] W fun e W' => (∃ v, e = .returned v) ∧
      ((∃ ys, ys = up8 8 ∧ J ys W') ∨ (∃ pre, (∃ k, k ≤ 8 ∧ pre = up8 k) ∧ Jx pre W')) := by
  refine callsIn_of_wp Try.func49 rfl trivial ?_ rfl
  simp only [Try.ntmps49, List.size_toArray, List.length_cons, List.length_nil, Nat.reduceAdd, Nat.reduceSub, Array.replicate_succ, Array.replicate_zero, List.push_toArray, List.append_toArray, List.nil_append, List.cons_append]
  gi_wp2
  gi_loopw [3, 4, 5] (fun _ _ i wr => ∃ k : Nat, k ≤ 8 ∧ i = .int .i64 k ∧ J (up8 k) wr ∧ At wr Bs [.slice (some ⟨b, off, none⟩) 64 cap] tB) (fun _ _ i _ => 8 - (intOf i).toNat)
  case atStart => exact ⟨0, by omega, rfl, h0, hBs⟩
  case round =>
    obtain ⟨k, hk, rfl, hJs, hnx⟩ := hrel
    have hBs' := hnx.cell
    by_cases hlt : k < 8
    · obtain ⟨fn, tmps, assign, body, hy, hR⟩ := hY _ ⟨k, hlt⟩ wr hJs (by rw [up8_length hk]; exact hlt)
      dsimp only [pageSl] at hy
      have hat : Hid (atP 0 k = ((4 + 7 * k : Nat) : Int)) := by unfold Hid atP; rw [if_neg (by omega)]; omega
      have hne : ¬ cap = 4 + 7 * k := by omega
      have Hcl := Lib.hid hJs; clear hJs hBs
      have Hnx := Lib.hid hnx; clear hnx
      gi_wp2_with (refine ⟨trivial, ?_⟩; gi_at_call 50; refine (callsIn_wide.2 (at_any _ _ _)).mono ?_; rintro e w' ⟨rfl, rfl⟩; rw [hat.out])
      refine hR.mono ?_
      rintro e W3 (⟨rfl, hJ3, hk3⟩ | ⟨rfl, hJx3⟩)
      · have Hk3 := Lib.hid hk3; clear hk3
        gi_wp2
        go_roundw
        case rel => exact ⟨k + 1, by omega, by go_num, by rw [up8_succ hlt]; exact hJ3, keepBlk_at Hk3.out Hnx.out⟩
        case measure => simp only [intOf]; omega
      · gi_wp2
        refine bodyPost_ret (results_none rfl _ _ _) rfl ?_
        exact ⟨⟨_, rfl⟩, .inr ⟨_, ⟨k + 1, by omega, (up8_succ hlt).symm⟩, hJx3⟩⟩
    · obtain rfl : k = 8 := by omega
      gi_wp2
      go_end0
      exact ⟨⟨_, rfl⟩, .inl ⟨_, rfl, hJs⟩⟩

theorem pages_stops (Bs b off cap : Nat) (tB : TypeId) (hcap : 64 ≤ cap) (hc63 : cap ≤ 9223372036854775807) (w : World) (hBs : At w Bs [.slice (some ⟨b, off, none⟩) 64 cap] tB) :
    SeqStopsK Fence.wide 9 Try.prog 49 #[.pointer (some ⟨Bs, 0, none⟩)] (pageEnc b off cap) (KeepBlk Bs) (fun ys => ys = up8 8) (fun pre => ∃ k, k ≤ 8 ∧ pre = up8 k) 8 w :=
  fun l J Jx W hW _ _ hY h0 => pages1_in l Bs b off cap tB hcap hc63 J Jx hY W (hBs.of_below hW) h0
end Go.Proofs.Ytihlbfbplmehiaa
