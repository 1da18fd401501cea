/- Walks of the reference of scan: Next, Empty. -/
import Derived.Test.YtcgjppdjjhigoaaScanI
namespace Go.Proofs.Ytcgjppdjjhigoaa
open Go.RowKit Go.Shelf
set_option maxHeartbeats 4000000

theorem dn8_mem {k : Nat} {y : Fin 8} (h : y ∈ dn8 k) : 8 ≤ y.1 + k := by
  by_cases hk : k ≤ 8
  · have : ∀ i : Fin 9, ∀ y ∈ dn8 i.1, 8 ≤ y.1 + i.1 := by decide
    exact this ⟨k, by omega⟩ y h
  · have := y.2; omega
/-- all from k on are free -/
def freeFrom (kv : Fin 8 → Int) (k : Nat) : Prop := ∀ x : Fin 8, k ≤ x.1 → kv x = 0
theorem freeFrom_8 (kv : Fin 8 → Int) : freeFrom kv 8 := fun x h => by have := x.2; omega
theorem freeFrom_pred {kv : Fin 8 → Int} {k : Nat} (h : freeFrom kv (k + 1)) (hk : k < 8) (h0 : kv ⟨k, hk⟩ = 0) : freeFrom kv k := fun x hx => by
  by_cases e : x.1 = k
  · have : x = ⟨k, hk⟩ := Fin.ext e
    rw [this]; exact h0
  · exact h x (by omega)
theorem next_all {kv : Fin 8 → Int} (h : freeFrom kv 0) : nextOf 1 kv = 0 := nextOf_none fun x _ => h x (by omega)
theorem next_at {kv : Fin 8 → Int} {k : Nat} (h : freeFrom kv (k + 1)) (hk : k < 8) (h0 : kv ⟨k, hk⟩ ≠ 0) : nextOf 1 kv = if k = 7 then -1 else (k : Int) + 1 := by
  have e : (⟨7 - (7 - k), by omega⟩ : Fin 8) = ⟨k, hk⟩ := Fin.ext (by show 7 - (7 - k) = k; omega)
  have := nextOf_some (kv := kv) (k := 7 - k + 1) (ini := dn8 (7 - k)) (x := ⟨k, hk⟩) (by rw [dn8_succ (by omega), e]) (fun y hy => h y (by have := dn8_mem hy; omega)) h0
  rw [this]; rfl

set_option maxRecDepth 100000 in
theorem refNext_any (h c : Int) (ks : List Int) (ps : List Pg) (kv : Fin 8 → Int) (hk : ks.length = 8) (hp : ps.length = 8) (hkv : ∀ x : Fin 8, ks[x.1]? = some (kv x)) (w : World) :
    Calls Try.prog 38 #[.agg (bkCells h c ks ps).toArray] w fun e w' => e = .returned (.int .i64 (nextOf h kv)) ∧ Below w.heap.size w w' := by
  have hc0 : (bkCells h c ks ps)[0]? = some (.int .i64 h) := rfl
  have hcx : ∀ x : Fin 8, (bkCells h c ks ps)[2 + x.1]? = some (.int .i64 (kv x)) := by
    intro x
    unfold bkCells
    rw [List.append_assoc, List.getElem?_append_right (by simp), List.getElem?_append_left (by simp [hk])]
    simp [hkv x]
  generalize bkCells h c ks ps = cs at *
  have Hcx := Lib.hid hcx; clear hcx
  go_enter Try.func38, Try.ntmps38
  have hA : At (w.alloc (.cells cs.toArray 72)) w.heap.size cs 72 := (New.alloc w _).to
  have HB := Lib.hid ((Below.refl _ w).alloc (Nat.le_refl _) (.cells cs.toArray 72))
  by_cases h1 : h = 1
  · subst h1
    have hcc : ∀ x : Fin 8, (w.alloc (.cells cs.toArray 72)).cell? ⟨w.heap.size, 2 + x.1, none⟩ = some (.int .i64 (kv x)) := fun x => (hA.cell _).trans (Hcx.out x)
    have Hcc := Lib.hid hcc; clear hcc hA
    go_wp2_with fail
    generalize (w.alloc (.cells cs.toArray 72)) = w1 at *
    go_loop [3] (fun n => ∃ k : Nat, k ≤ 8 ∧ n = .int .i64 k ∧ freeFrom kv k) (fun n => (intOf n).toNat)
    case atStart => exact ⟨8, by omega, rfl, freeFrom_8 kv⟩
    case round =>
      obtain ⟨k, hk, rfl, hf⟩ := hrel
      have Hf := Lib.hid hf; clear hf
      by_cases h0 : k = 0
      · subst h0
        have Hn := Lib.hid (next_all Hf.out)
        go_wp2_with fail
        go_ret
        exact ⟨by rw [Hn.out]; rfl, HB.out⟩
      · obtain ⟨m, rfl⟩ : ∃ m, k = m + 1 := ⟨k - 1, by omega⟩
        have hc := Hcc.out ⟨m, by omega⟩
        have hm1 : ((m + 1 : Nat) : Int) - 1 = (m : Int) := by omega
        by_cases hz : kv ⟨m, by omega⟩ = 0
        · have Hf2 := Lib.hid (freeFrom_pred Hf.out (by omega) hz)
          rw [hz] at hc
          clear hz
          go_wp2_with fail
          go_round
          case rel => exact ⟨m, by omega, by go_num, Hf2.out⟩
          case measure => simp only [intOf]; omega
        · have hzb : (kv ⟨m, by omega⟩ == 0) = false := by simpa using hz
          by_cases h7 : m = 7
          · have hn : nextOf 1 kv = -1 := by rw [next_at Hf.out (by omega) hz, if_pos h7]
            have Hn := Lib.hid hn; clear hz hn
            have h8 : ((m : Int) + 1 == 8) = true := by simp; omega
            have H7 := Lib.hid h7; clear h7
            go_wp2_with fail
            trace_state
            go_ret
            exact ⟨by rw [Hn.out]; rfl, HB.out⟩
          · have hn : nextOf 1 kv = (m : Int) + 1 := by rw [next_at Hf.out (by omega) hz, if_neg h7]
            have Hn := Lib.hid hn; clear hz hn
            go_wp2_with fail
            go_ret
            exact ⟨by rw [Hn.out]; rfl, HB.out⟩
  · have hbn : (h != 1) = true := by simp [h1]
    have hn : nextOf h kv = -1 := by unfold nextOf; rw [if_neg h1]
    rw [hn]
    clear h1 hn hA
    go_wp2_with fail
    go_ret
    exact ⟨rfl, HB.out⟩

set_option maxRecDepth 100000 in
theorem refEmpty_any (h c : Int) (ks : List Int) (ps : List Pg) (kv : Fin 8 → Int) (hk : ks.length = 8) (hp : ps.length = 8) (hkv : ∀ x : Fin 8, ks[x.1]? = some (kv x)) (w : World) :
    Calls Try.prog 40 #[.agg (bkCells h c ks ps).toArray] w fun e w' => e = .returned (.bool (nextOf h kv == 0)) ∧ Below w.heap.size w w' := by
  have hn := fun u => refNext_any h c ks ps kv hk hp hkv u
  have hlen := bk_length (h := h) (c := c) hk hp
  generalize bkCells h c ks ps = cs at *
  go_enter Try.func40, Try.ntmps40
  have hA : At (w.alloc (.cells cs.toArray 72)) w.heap.size cs 72 := (New.alloc w _).to
  have HB := Lib.hid ((Below.refl _ w).alloc (Nat.le_refl _) (.cells cs.toArray 72))
  have hi66 : (Try.prog.info? 72).map (·.size) = some 66 := by kernel_rfl
  have HA := Lib.hid hA; have Hi := Lib.hid hi66; have Hn := Lib.hid hn; have Hlen := Lib.hid hlen; clear hA hi66 hn hlen
  go_wp2_with (first
    | (refine ld_agg rfl rfl rfl HA.out Try.underlying72 rfl 66 Hi.out (by rw [Hlen.out]; decide) ?_; rw [show ((cs.drop 0).take 66) = cs by rw [List.drop_zero]; exact List.take_of_length_le (Nat.le_of_eq Hlen.out)])
    | (go_at_call 38; refine (Hn.out _).mono ?_; rintro e w2 ⟨rfl, hb2⟩; have HB2 := Lib.hid (HB.out.trans (hb2.mono HB.out.size)); clear hb2)
    | fail)
  go_ret
  exact ⟨rfl, HB2.out⟩
end Go.Proofs.Ytcgjppdjjhigoaa
