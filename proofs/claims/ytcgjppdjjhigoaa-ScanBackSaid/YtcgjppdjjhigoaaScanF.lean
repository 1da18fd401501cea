/- Walks of package scan: slices.Backward over the kinds of a block. -/
import Derived.Test.YtcgjppdjjhigoaaScanE
namespace Go.Proofs.Ytcgjppdjjhigoaa
open Go.RowKit Go.Shelf
set_option maxHeartbeats 1000000
attribute [local go_sem] Oper.semAt_some

/-- the last k numbers of eight, from the last one on -/
def dn8 (k : Nat) : List (Fin 8) := (List.finRange 8).reverse.take k
theorem dn8_succ' : ∀ i : Fin 8, dn8 (i.1 + 1) = dn8 i.1 ++ [⟨7 - i.1, Nat.lt_succ_of_le (Nat.sub_le 7 i.1)⟩] := by decide
theorem dn8_succ {k : Nat} (h : k < 8) : dn8 (k + 1) = dn8 k ++ [⟨7 - k, Nat.lt_succ_of_le (Nat.sub_le 7 k)⟩] := dn8_succ' ⟨k, h⟩
theorem dn8_length {k : Nat} (h : k ≤ 8) : (dn8 k).length = k := by simp [dn8]; omega
def kindEnc (kv : Fin 8 → Int) (x : Fin 8) : Array Value := #[.int .i64 (x.1 : Int), .int .i64 (kv x)]

set_option maxRecDepth 100000 in
theorem back1_in (l Bs g : Nat) (tB tG : TypeId) (c : List Value) (kv : Fin 8 → Int) (hkv : ∀ x : Fin 8, c[2 + x.1]? = some (.int .i64 (kv x))) (J Jx : List (Fin 8) → World → Prop)
    (hY : ∀ (pre : List (Fin 8)) (x : Fin 8) W, J pre W → pre.length < 8 → YieldAt Fence.wide 8 Try.prog l #[.int .i64 (x.1 : Int), .int .i64 (kv x)] W fun e W' =>
      (e = .returned (.bool true) ∧ J (pre ++ [x]) W' ∧ KeepTwo Bs g W W') ∨ (e = .returned (.bool false) ∧ Jx (pre ++ [x]) W'))
    (W : World) (hBs : At W Bs [.slice (some ⟨g, 2, none⟩) 8 8] tB) (hG : At W g c tG) (h0 : J [] W) :
    CallsIn Fence.wide 9 Try.prog 59 #[.func (.yield l) #[] #[], .pointer (some ⟨Bs, 0, none⟩)] W fun e W' => (∃ v, e = .returned v) ∧
      ((∃ ys, ys = dn8 8 ∧ J ys W') ∨ (∃ pre, (∃ k, k ≤ 8 ∧ pre = dn8 k) ∧ Jx pre W')) := by
  refine callsIn_of_wp Try.func59 rfl trivial ?_ rfl
  simp only [Try.ntmps59, List.size_toArray, List.length_cons, List.length_nil, Nat.reduceAdd, Nat.reduceSub, Array.replicate_succ, Array.replicate_zero, List.push_toArray, List.append_toArray, List.nil_append, List.cons_append]
  have hcs := hBs.cell 0
  simp only [List.getElem?_cons_zero] at hcs
  have HBs := Lib.hid hBs; have HG := Lib.hid hG; clear hBs hG
  gi_wp2
  gi_loopw [3] (fun i wr => ∃ k : Nat, k ≤ 8 ∧ i = .int .i64 (7 - (k : Int)) ∧ J (dn8 k) wr ∧ At wr Bs [.slice (some ⟨g, 2, none⟩) 8 8] tB ∧ At wr g c tG) (fun i _ => (intOf i + 1).toNat)
  case atStart => exact ⟨0, by omega, by simp, h0, HBs.out, HG.out⟩
  case round =>
    obtain ⟨k, hk, rfl, hJs, hA1, hA2⟩ := hrel
    have hc1 := hA1.cell 0
    simp only [List.getElem?_cons_zero] at hc1
    have HA1 := Lib.hid hA1; have HA2 := Lib.hid hA2; clear hA1 hA2
    by_cases hlt : k < 8
    · have hce : wr.cell? ⟨g, 2 + (7 - k), none⟩ = some (.int .i64 (kv ⟨7 - k, by omega⟩)) := (HA2.out.cell (2 + (7 - k))).trans (hkv ⟨7 - k, by omega⟩)
      obtain ⟨fn, tmps, assign, body, hy, hR⟩ := hY _ ⟨7 - k, by omega⟩ wr hJs (by rw [dn8_length hk]; exact hlt)
      dsimp only at hy
      generalize hkx : kv ⟨7 - k, by omega⟩ = y at hce hy
      obtain ⟨q, hq⟩ : ∃ q, 7 - k = q := ⟨_, rfl⟩
      have hqi : (7 : Int) - (k : Int) = (q : Int) := by omega
      rw [hq] at hce hy
      have hq8 : q < 8 := by omega
      rw [hqi]
      have Hqi := Lib.hid hqi; have Hq := Lib.hid hq; have Hkx := Lib.hid hkx; clear hqi hq hkx
      have HJ := Lib.hid hJs; clear hJs h0 hY
      gi_wp2_with fail
      refine hR.mono ?_
      rintro e W3 (⟨rfl, hJ3, hk3⟩ | ⟨rfl, hJx3⟩)
      · have hB1 := keepBlk_at hk3.1 HA1.out
        have hB2 := keepBlk_at hk3.2 HA2.out
        have HB1 := Lib.hid hB1; have HB2 := Lib.hid hB2; have HJ3 := Lib.hid hJ3; clear hB1 hB2 hJ3 hk3
        gi_wp2
        go_roundw
        case rel => exact ⟨k + 1, by omega, by have := Hqi.out; congr 1; omega, by rw [dn8_succ hlt]; exact HJ3.out, HB1.out, HB2.out⟩
        case measure => simp only [intOf]; omega
      · gi_wp2
        refine bodyPost_ret (results_none rfl _ _ _) rfl ?_
        exact ⟨⟨_, rfl⟩, .inr ⟨_, ⟨k + 1, by omega, (dn8_succ hlt).symm⟩, hJx3⟩⟩
    · obtain rfl : k = 8 := by omega
      gi_wp2
      go_end0
      exact ⟨⟨_, rfl⟩, .inl ⟨_, rfl, hJs⟩⟩
theorem backward_in (a : Option Addr) (len cap : Nat) (n : Nat) (w : World) :
    CallsIn Fence.wide n Try.prog 51 #[.slice a len cap] w fun e w' => e = .returned (.func (.func 59) #[] #[.pointer (some ⟨w.heap.size, 0, none⟩)]) ∧ w' = w.alloc (.cells #[.slice a len cap] 85) := by
  refine callsIn_of_wp Try.func51 rfl trivial ?_ rfl
  simp only [Try.ntmps51, List.size_toArray, List.length_cons, List.length_nil, Nat.reduceAdd, Nat.reduceSub, Array.replicate_succ, Array.replicate_zero, List.push_toArray, List.append_toArray, List.nil_append, List.cons_append]
  gi_wp2
  go_ret
  exact ⟨rfl, rfl⟩

theorem back_stops (Bs g : Nat) (tB tG : TypeId) (c : List Value) (kv : Fin 8 → Int) (hkv : ∀ x : Fin 8, c[2 + x.1]? = some (.int .i64 (kv x))) (w : World) (hBs : At w Bs [.slice (some ⟨g, 2, none⟩) 8 8] tB) (hG : At w g c tG) :
    SeqStopsK Fence.wide 9 Try.prog 59 #[.pointer (some ⟨Bs, 0, none⟩)] (kindEnc kv) (KeepTwo Bs g) (fun ys => ys = dn8 8) (fun pre => ∃ k, k ≤ 8 ∧ pre = dn8 k) 8 w :=
  fun l J Jx W hW _ _ hY h0 => back1_in l Bs g tB tG c kv hkv J Jx hY W (hBs.of_below hW) (hG.of_below hW) h0
end Go.Proofs.Ytcgjppdjjhigoaa
