/- Walks of the references 15 and 16: place, Word, wrong, Load. -/
import Derived.Test.YtfgipnohomdcoaaBusC
namespace Go.Proofs.Ytfgipnohomdcoaa
open Go.RowKit
set_option maxHeartbeats 4000000

/-- a memory as a value -/
def RV (w : World) (v : Value) (base : Int) (ws : List Int) : Prop := ∃ s, v = .agg #[.int .u32 base, s] ∧ Sl w s ws ∧ (0 ≤ base ∧ base < 4294967296) ∧ ws.length ≤ 1000
theorem RV.below {w w' : World} {v : Value} {base : Int} {ws : List Int} (h : RV w v base ws) (hb : Below w.heap.size w w') : RV w' v base ws := by
  obtain ⟨s, h1, h2, h3⟩ := h; exact ⟨s, h1, h2.below hb, h3⟩
theorem Sl.shape {w : World} {v : Value} {l : List Int} (h : Sl w v l) : ∃ a c, v = .slice a l.length c := by
  rcases h with ⟨rfl, rfl⟩ | ⟨b, off, cap, hv, _⟩
  · exact ⟨none, 0, rfl⟩
  · exact ⟨_, _, hv⟩

/-- the number of a place; -1 where there is none -/
def rpl (base t : Int) (n : Nat) : Int := match memIdx base t n with | some i => (i : Int) | none => -1

theorem rpl_found {base t : Int} {n k : Nat} (hk : k < n) (h : base + 4 * k = t) (h4 : t % 4 = 0) : rpl base t n = k := by
  have : memIdx base t n = some k := by
    unfold memIdx
    rw [if_pos (by omega)]
    congr 1
    omega
  unfold rpl
  rw [this]
theorem rpl_none {base t : Int} {n : Nat} (h : ∀ j : Nat, j < n → ¬ (base + 4 * j = t ∧ t % 4 = 0)) : rpl base t n = -1 := by
  unfold rpl
  cases hm : memIdx base t n with
  | none => rfl
  | some i =>
    obtain ⟨h1, h2, h3, h4, h5⟩ := memIdx_some hm
    exact absurd ⟨by omega, h2⟩ (h i h5)

set_option maxRecDepth 100000 in
theorem rplace_any {base t : Int} {ws : List Int} {v : Value} (ht : 0 ≤ t ∧ t < 4294967296) (w : World) (h : RV w v base ws) :
    Calls Try.prog 32 #[v, .int .u64 t] w fun e w' => e = .returned (.int .i64 (rpl base t ws.length)) ∧ Below w.heap.size w w' := by
  obtain ⟨s, rfl, hs, hb, hl⟩ := h
  obtain ⟨a, c, rfl⟩ := hs.shape
  obtain ⟨n, hn⟩ : ∃ n, ws.length = n := ⟨_, rfl⟩
  rw [hn] at hl ⊢
  clear hs hn
  obtain ⟨ht1, ht2⟩ := ht
  obtain ⟨hb1, hb2⟩ := hb
  have Hi2 : Hid ((Try.prog.info? 25).map (·.size) = some 2) := by unfold Hid; kernel_rfl
  have Hold : Hid (∀ W, Below w.heap.size w W → Below w.heap.size w W) := fun _ h => h
  go_enter Try.func32, Try.ntmps32
  go_wp2_with (first
    | (refine bx_new rfl rfl rfl ?_; intro w2 hn2; have HN := Lib.hid (show At w2 w.heap.size [.int .u32 base, .slice a n c] 25 from hn2.to); have HB := Lib.hid (hn2.below (Nat.le_refl _)); clear hn2)
    | fail)
  have c0 : w2.cell? ⟨w.heap.size, 0, none⟩ = some (.int .u32 base) := HN.out.cell 0
  have c1 : w2.cell? ⟨w.heap.size, 1, none⟩ = some (.slice a n c) := HN.out.cell 1
  obtain ⟨g, hg⟩ : ∃ g, w.heap.size = g := ⟨_, rfl⟩
  rw [hg] at c0 c1
  go_wp2_with fail
  go_loop [5] (fun i => ∃ k : Nat, k ≤ n ∧ i = .int .i64 k ∧ ∀ j : Nat, j < k → ¬ (base + 4 * j = t ∧ t % 4 = 0)) (fun i => n - (intOf i).toNat)
  case atStart => exact ⟨0, by omega, rfl, fun j hj => absurd hj (by omega)⟩
  case round =>
    obtain ⟨k, hk, rfl, hf⟩ := hrel
    have Hf := Lib.hid hf; clear hf
    by_cases hlt : k < n
    · by_cases he : base + 4 * k = t
      · by_cases h4 : t % 4 = 0
        · have Hr := Lib.hid (rpl_found hlt he h4)
          have b1 : (t % 4 == 0) = true := by rw [beq_iff_eq]; exact h4
          have b2 : (base + 4 * (k : Int) == t) = true := by rw [beq_iff_eq]; exact he
          have b3 : (t == base + 4 * (k : Int)) = true := by rw [beq_iff_eq]; exact he.symm
          have hlo : base + 4 * (k : Int) < 4294967296 := by omega
          clear h4 he
          go_wp2_with fail
          go_ret
          exact ⟨by rw [Hr.out]; rfl, by rw [← hg]; exact HB.out⟩
        · have Hf2 : Hid (∀ j : Nat, j < k + 1 → ¬ (base + 4 * j = t ∧ t % 4 = 0)) := by
            intro j hj
            by_cases e : j = k
            · subst e; exact fun hh => h4 hh.2
            · exact Hf.out j (by omega)
          have b1 : (t % 4 == 0) = false := by rw [beq_eq_false_iff_ne]; exact h4
          have b2 : (base + 4 * (k : Int) == t) = true := by rw [beq_iff_eq]; exact he
          have b3 : (t == base + 4 * (k : Int)) = true := by rw [beq_iff_eq]; exact he.symm
          have hlo : base + 4 * (k : Int) < 4294967296 := by omega
          clear h4 he
          go_wp2_with fail
          go_round
          case rel => exact ⟨k + 1, by omega, by go_num, Hf2.out⟩
          case measure => simp only [intOf]; omega
      · have Hf2 : Hid (∀ j : Nat, j < k + 1 → ¬ (base + 4 * j = t ∧ t % 4 = 0)) := by
          intro j hj
          by_cases e : j = k
          · subst e; exact fun hh => he hh.1
          · exact Hf.out j (by omega)
        have b2 : (base + 4 * (k : Int) == t) = false := by rw [beq_eq_false_iff_ne]; exact he
        by_cases hlo : base + 4 * (k : Int) < 4294967296
        · have b3 : (t == base + 4 * (k : Int)) = false := by rw [beq_eq_false_iff_ne]; exact fun e => he e.symm
          clear he
          go_wp2_with fail
          go_round
          case rel => exact ⟨k + 1, by omega, by go_num, Hf2.out⟩
          case measure => simp only [intOf]; omega
        · clear he
          obtain ⟨q1, hq1⟩ : ∃ q, (t == (base + 4 * (k : Int)) % 4294967296) = q := ⟨_, rfl⟩
          obtain ⟨q2, hq2⟩ : ∃ q, (t % 4 == 0) = q := ⟨_, rfl⟩
          cases q1
          · go_wp2_with fail
            go_round
            case rel => exact ⟨k + 1, by omega, by go_num, Hf2.out⟩
            case measure => simp only [intOf]; omega
          · cases q2
            · go_wp2_with fail
              go_round
              case rel => exact ⟨k + 1, by omega, by go_num, Hf2.out⟩
              case measure => simp only [intOf]; omega
            · go_wp2_with fail
              go_round
              case rel => exact ⟨k + 1, by omega, by go_num, Hf2.out⟩
              case measure => simp only [intOf]; omega
    · have Hr : Hid (rpl base t n = -1) := rpl_none (fun j hj => Hf.out j (by omega))
      go_wp2_with fail
      go_ret
      exact ⟨by rw [Hr.out]; rfl, by rw [← hg]; exact HB.out⟩
end Go.Proofs.Ytfgipnohomdcoaa
