/- Walks of package scan: the blocks, one behind the other (slices.Chunk). -/
import Derived.Test.YtihlbfbplmehiaaScanC
import Derived.Sort.QuietIn
import Derived.Stop.RegionWithIn
namespace Go.Proofs.Ytihlbfbplmehiaa
open Go.RowKit Go.Shelf
set_option maxHeartbeats 1000000
attribute [local go_sem] Oper.semAt_some

/-- the slice of a block -/
def blockSl (b off i : Nat) : Value := .slice (some ⟨b, off + 64 * i, none⟩) 64 64
def blockEnc (b off m : Nat) (x : Fin m) : Array Value := #[blockSl b off x.1]
/-- two blocks lie as they lay -/
def KeepTwo (b c : Nat) (W W' : World) : Prop := KeepBlk b W W' ∧ KeepBlk c W W'
theorem keepTwo_t {b c : Nat} {A B C : World} (h : KeepTwo b c A B) (k : KeepTwo b c B C) : KeepTwo b c A C := ⟨keepBlk_t h.1 k.1, keepBlk_t h.2 k.2⟩

/-- the first k numbers of m -/
def upF (m k : Nat) : List (Fin m) := (List.finRange m).take k
theorem upF_zero (m : Nat) : upF m 0 = [] := rfl
theorem upF_succ {m k : Nat} (h : k < m) : upF m (k + 1) = upF m k ++ [⟨k, h⟩] := by
  unfold upF
  rw [List.take_add_one]
  congr 1
  rw [List.getElem?_eq_getElem (by simpa using h)]
  simp
theorem upF_length {m k : Nat} (h : k ≤ m) : (upF m k).length = k := by simp [upF]; omega

set_option maxRecDepth 100000 in
theorem chunk1_in (l B1 B2 b off m cap : Nat) (t1 t2 : TypeId) (hcap : 64 * m ≤ cap) (hc63 : cap ≤ 9223372036854775807) (hm : m ≤ 1000) (J Jx : List (Fin m) → World → Prop) (hJo : ∀ s (W : World) n, J s W → J s (W.drewN n))
    (hY : ∀ (pre : List (Fin m)) (x : Fin m) W, J pre W → pre.length < m → YieldAt Fence.wide 8 Try.prog l #[blockSl b off x.1] W fun e W' =>
      (e = .returned (.bool true) ∧ J (pre ++ [x]) W' ∧ KeepTwo B1 B2 W W') ∨ (e = .returned (.bool false) ∧ Jx (pre ++ [x]) W'))
    (W : World) (h1 : At W B1 [.slice (some ⟨b, off, none⟩) (64 * m : Nat) cap] t1) (h2 : At W B2 [.int .i64 64] t2) (h0 : J [] W) :
    CallsIn Fence.wide 9 Try.prog 38 #[.func (.yield l) #[] #[], .pointer (some ⟨B1, 0, none⟩), .pointer (some ⟨B2, 0, none⟩)] W fun e W' => (∃ v, e = .returned v) ∧
      ((∃ ys, ys = upF m m ∧ J ys W') ∨ (∃ pre, (∃ k, k ≤ m ∧ pre = upF m k) ∧ Jx pre W')) := by
  refine callsIn_of_wp Try.func38 rfl trivial ?_ rfl
  simp only [Try.ntmps38, List.size_toArray, List.length_cons, List.length_nil, Nat.reduceAdd, Nat.reduceSub, Array.replicate_succ, Array.replicate_zero, List.push_toArray, List.append_toArray, List.nil_append, List.cons_append]
  gi_wp2
  gi_loopw [4, 5] (fun i _ wr => ∃ k : Nat, k ≤ m ∧ i = .int .i64 ((64 * k : Nat) : Int) ∧ J (upF m k) wr ∧ At wr B1 [.slice (some ⟨b, off, none⟩) (64 * m : Nat) cap] t1 ∧ At wr B2 [.int .i64 64] t2) (fun i _ _ => 64 * m - (intOf i).toNat)
  case atStart => exact ⟨0, by omega, rfl, h0, h1, h2⟩
  case round =>
    obtain ⟨k, hk, rfl, hJs, hA1, hA2⟩ := hrel
    have hc1 := hA1.cell 0
    have hc2 := hA2.cell 0
    simp only [List.getElem?_cons_zero] at hc1 hc2
    have HA1 := Lib.hid hA1; have HA2 := Lib.hid hA2; have Hh1 := Lib.hid h1; have Hh2 := Lib.hid h2; clear hA1 hA2 h1 h2
    by_cases hlt : k < m
    · have HJ := Lib.hid hJs; clear hJs h0
      have HY := Lib.hid hY; clear hY
      gi_wp2_with (first | gi_quiet (fail) | fail)
      rename_i nq _ _ _ _
      obtain ⟨fn, tmps, assign, body, hy, hR⟩ := HY.out _ ⟨k, hlt⟩ (wr.drewN nq) (hJo _ _ _ HJ.out) (by rw [upF_length hk]; exact hlt)
      dsimp only [blockSl] at hy
      rw [hy]
      gi_wp2_with fail
      refine hR.mono ?_
      rintro e W3 (⟨rfl, hJ3, hk3⟩ | ⟨rfl, hJx3⟩)
      · have hB1 := keepBlk_at hk3.1 (HA1.out.drewN nq)
        have hB2 := keepBlk_at hk3.2 (HA2.out.drewN nq)
        have hc3 := hB2.cell 0
        simp only [List.getElem?_cons_zero] at hc3
        have HB1 := Lib.hid hB1; have HB2 := Lib.hid hB2; have HJ3 := Lib.hid hJ3; clear hB1 hB2 hJ3 hk3
        gi_wp2
        go_roundw
        case rel => exact ⟨k + 1, by omega, by go_num, by rw [upF_succ hlt]; exact HJ3.out, HB1.out, HB2.out⟩
        case measure => simp only [intOf]; omega
      · gi_wp2
        refine bodyPost_ret (results_none rfl _ _ _) rfl ?_
        exact ⟨⟨_, rfl⟩, .inr ⟨_, ⟨k + 1, by omega, (upF_succ hlt).symm⟩, hJx3⟩⟩
    · obtain rfl : k = m := by omega
      gi_wp2
      go_end0
      exact ⟨⟨_, rfl⟩, .inl ⟨_, rfl, hJs⟩⟩
theorem chunk_in (a : Option Addr) (len cap : Nat) (n : Nat) (w : World) :
    CallsIn Fence.wide n Try.prog 27 #[.slice a len cap, .int .i64 64] w fun e w' => e = .returned (.func (.func 38) #[] #[.pointer (some ⟨w.heap.size, 0, none⟩), .pointer (some ⟨w.heap.size + 1, 0, none⟩)]) ∧
      w' = (w.alloc (.cells #[.slice a len cap] 62)).alloc (.cells #[.int .i64 64] 3) := by
  refine callsIn_of_wp Try.func27 rfl trivial ?_ rfl
  simp only [Try.ntmps27, List.size_toArray, List.length_cons, List.length_nil, Nat.reduceAdd, Nat.reduceSub, Array.replicate_succ, Array.replicate_zero, List.push_toArray, List.append_toArray, List.nil_append, List.cons_append]
  have hc : ((w.alloc (.cells #[.slice a len cap] 62)).alloc (.cells #[.int .i64 64] 3)).cell? ⟨w.heap.size + 1, 0, none⟩ = some (.int .i64 64) := by
    have h := (New.alloc (w.alloc (.cells #[.slice a len cap] 62)) (.cells [Value.int .i64 64].toArray 3)).to.cell 0
    rw [World.size_alloc] at h
    exact h
  gi_wp2
  go_ret
  exact ⟨rfl, rfl⟩

theorem chunk_stops (B1 B2 b off m cap : Nat) (t1 t2 : TypeId) (hcap : 64 * m ≤ cap) (hc63 : cap ≤ 9223372036854775807) (hm : m ≤ 1000) (w : World) (h1 : At w B1 [.slice (some ⟨b, off, none⟩) (64 * m : Nat) cap] t1) (h2 : At w B2 [.int .i64 64] t2) :
    SeqStopsK Fence.wide 9 Try.prog 38 #[.pointer (some ⟨B1, 0, none⟩), .pointer (some ⟨B2, 0, none⟩)] (blockEnc b off m) (KeepTwo B1 B2) (fun ys => ys = upF m m) (fun pre => ∃ k, k ≤ m ∧ pre = upF m k) m w :=
  fun l J Jx W hW hJ _ hY h0 => chunk1_in l B1 B2 b off m cap t1 t2 hcap hc63 hm J Jx (fun s W n h => hJ s W (W.drewN n) none h ⟨rfl, rfl, rfl, Nat.le_refl _, fun _ _ _ => rfl⟩ (fun r e => by cases e)) hY W (h1.of_below hW) (h2.of_below hW) h0
end Go.Proofs.Ytihlbfbplmehiaa
