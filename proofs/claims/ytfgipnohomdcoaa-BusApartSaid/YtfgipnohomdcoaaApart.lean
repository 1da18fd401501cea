/- What is stored somewhere changes no byte elsewhere: the plain law. -/
import Derived.Test.YtfgipnohomdcoaaBusC
namespace Go.Proofs.Ytfgipnohomdcoaa
open Go.RowKit

/-- the byte of a word -/
def byteAt (x : Int) (r : Nat) : Int := x / pw (8 * r) % 256
/-- is the byte so far behind the first one among those that were stored? -/
def inB (e base t sz : Int) (i : Nat) : Bool := decide (e = 0) && (decide (t ≤ (base + i) % 4294967296) && decide (((base + i) % 4294967296 - t) % 4294967296 < sz % 4294967296))
theorem and255 {x : Int} (hx : 0 ≤ x ∧ x < 4294967296) (r : Nat) : bits .and .u32 (x / 2 ^ (8 * r)) 255 = byteAt x r := by
  obtain ⟨n, rfl⟩ := Int.eq_ofNat_of_zero_le hx.1
  have h1 : ((n : Int) / 2 ^ (8 * r)) = ((n / 2 ^ (8 * r) : Nat) : Int) := by simp
  have h2 : n / 2 ^ (8 * r) ≤ n := Nat.div_le_self _ _
  unfold byteAt pw
  have h3 := u32_and_nat (n / 2 ^ (8 * r)) 255 (by omega) (by omega)
  rw [show (255 : Nat) = 2 ^ 8 - 1 from rfl, Nat.and_two_pow_sub_one_eq_mod] at h3
  rw [h1]
  refine Eq.trans h3 ?_
  simp
theorem byte_put (x v : Int) (hx : 0 ≤ x ∧ x < 4294967296) (hv : 0 ≤ v ∧ v < 4294967296) (a s r : Nat) (hs : s = 1 ∨ s = 2 ∨ s = 4) (ha : a + s ≤ 4) (hd : a % s = 0) (hr : r < 4) :
    byteAt (ptF x (8 * a) (8 * s) v) r = if a ≤ r ∧ r < a + s then byteAt v (r - a) else byteAt x r := by
  have ha4 : a < 4 := by omega
  obtain ⟨hx1, hx2⟩ := hx
  obtain ⟨hv1, hv2⟩ := hv
  rcases hs with rfl | rfl | rfl
  · rcases (by omega : a = 0 ∨ a = 1 ∨ a = 2 ∨ a = 3) with rfl | rfl | rfl | rfl <;> rcases (by omega : r = 0 ∨ r = 1 ∨ r = 2 ∨ r = 3) with rfl | rfl | rfl | rfl <;> simp [byteAt, ptF, fld, pw] <;> omega
  · rcases (by omega : a = 0 ∨ a = 2) with rfl | rfl <;> rcases (by omega : r = 0 ∨ r = 1 ∨ r = 2 ∨ r = 3) with rfl | rfl | rfl | rfl <;> simp [byteAt, ptF, fld, pw] <;> omega
  · obtain rfl : a = 0 := by omega
    rcases (by omega : r = 0 ∨ r = 1 ∨ r = 2 ∨ r = 3) with rfl | rfl | rfl | rfl <;> simp [byteAt, ptF, fld, pw] <;> omega

theorem st_zero {base : Int} {ws : List Int} {t sz v : Int} (h0 : stS base ws t sz = 0) : chk t sz = 0 ∧ ∃ k, memIdx base (t - t % 4) ws.length = some k ∧ stW base ws t sz v = ws.set k (ptF (ws[k]?.getD 0) (8 * (t % 4)).toNat (8 * sz).toNat v) := by
  have hc0 : chk t sz = 0 := by
    unfold stS at h0
    split at h0
    · assumption
    · omega
  have his : (wdAt base ws (t - t % 4)).2 = true := by
    unfold stS at h0
    rw [if_neg (by omega)] at h0
    split at h0
    · assumption
    · cases h0
  obtain ⟨i, hm⟩ : ∃ i, memIdx base (t - t % 4) ws.length = some i := by
    unfold wdAt at his
    split at his
    · exact ⟨_, by assumption⟩
    · cases his
  exact ⟨hc0, i, hm, by unfold stW; rw [if_pos h0, wdPut_some hm, wdAt_some hm]⟩
theorem chk_mod {t sz : Int} (h : chk t sz = 0) : t % sz = 0 := by
  unfold chk at h
  split at h
  · cases h
  · split at h
    · cases h
    · omega
theorem inB_no {e base t sz : Int} {i : Nat} (h : e ≠ 0) : inB e base t sz i = false := by unfold inB; simp [h]
/-- a byte behind a store: of what was stored, or as it was -/
theorem apart_byte {base t sz v : Int} {ws : List Int} {i : Nat} (hr : ∀ x ∈ ws, 0 ≤ x ∧ x < 4294967296) (hb : 0 ≤ base ∧ base < 4294967296) (ht : 0 ≤ t ∧ t < 4294967296) (hv : 0 ≤ v ∧ v < 4294967296) (hi : i < 4 * ws.length) (hl : ws.length ≤ 1000) :
    byteAt ((stW base ws t sz v)[i / 4]?.getD 0) (i % 4) = if inB (stS base ws t sz) base t sz i then byteAt v (((base + i) % 4294967296 - t).toNat) else byteAt (ws[i / 4]?.getD 0) (i % 4) := by
  by_cases h0 : stS base ws t sz = 0
  · obtain ⟨hc0, k, hm, hw⟩ := st_zero (v := v) h0
    obtain ⟨m1, m2, m3, m4, hk⟩ := memIdx_some hm
    obtain ⟨hs1, _⟩ := chk_part ht.1 hc0
    have hmod := chk_mod hc0
    rw [hw]
    have e1 : (8 * (t % 4)).toNat = 8 * (t % 4).toNat := by omega
    have e2 : (8 * sz).toNat = 8 * sz.toNat := by omega
    have hm4 : (t % 4).toNat % sz.toNat = 0 ∧ (t % 4).toNat + sz.toNat ≤ 4 := by
      rcases hs1 with rfl | rfl | rfl
      · exact ⟨by show _ % (1 : Nat) = 0; omega, by show _ + (1 : Nat) ≤ 4; omega⟩
      · exact ⟨by show _ % (2 : Nat) = 0; omega, by show _ + (2 : Nat) ≤ 4; omega⟩
      · exact ⟨by show _ % (4 : Nat) = 0; omega, by show _ + (4 : Nat) ≤ 4; omega⟩
    have hsz : sz.toNat = 1 ∨ sz.toNat = 2 ∨ sz.toNat = 4 := by omega
    have hs4 : sz % 4294967296 = sz := by omega
    by_cases hq : i / 4 = k
    · rw [hq, List.getElem?_set_self hk, Option.getD_some, e1, e2, byte_put _ _ (by rw [List.getElem?_eq_getElem hk]; exact hr _ (List.getElem_mem _)) hv _ _ _ hsz hm4.2 hm4.1 (by omega)]
      have hwr : (base + (i : Int)) % 4294967296 = base + i := by omega
      by_cases hin : (t % 4).toNat ≤ i % 4 ∧ i % 4 < (t % 4).toNat + sz.toNat
      · have hB : inB (stS base ws t sz) base t sz i = true := by
          unfold inB
          rw [h0, hwr, hs4]
          simp only [decide_true, Bool.true_and, Bool.and_eq_true, decide_eq_true_eq]
          omega
        rw [if_pos hin, hB, if_pos rfl, hwr]
        congr 1
        omega
      · have hB : inB (stS base ws t sz) base t sz i = false := by
          unfold inB
          rw [h0, hwr, hs4]
          simp only [decide_true, Bool.true_and, Bool.and_eq_false_iff, decide_eq_false_iff_not]
          by_cases h : t ≤ base + (i : Int)
          · right; omega
          · left; exact h
        rw [if_neg hin, hB, if_neg (by simp)]
    · have hB : inB (stS base ws t sz) base t sz i = false := by
        unfold inB
        rw [h0, hs4]
        simp only [decide_true, Bool.true_and, Bool.and_eq_false_iff, decide_eq_false_iff_not]
        by_cases h : t ≤ (base + (i : Int)) % 4294967296
        · right
          by_cases h5 : base + (i : Int) < 4294967296
          · have hwr : (base + (i : Int)) % 4294967296 = base + i := by omega
            rw [hwr] at h ⊢
            omega
          · omega
        · left; exact h
      rw [List.getElem?_set_ne (by omega), hB, if_neg (by simp)]
  · have hw : stW base ws t sz v = ws := by unfold stW; rw [if_neg h0]
    rw [hw, inB_no h0, if_neg (by simp)]
end Go.Proofs.Ytfgipnohomdcoaa
