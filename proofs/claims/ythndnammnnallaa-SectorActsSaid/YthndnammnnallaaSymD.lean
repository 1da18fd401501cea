/- The evaluator over memory known by name: arithmetic and tests. -/
import Derived.Test.YthndnammnnallaaSymR
import Derived.Laws.StructEq
import Derived.ChangeKeysEq
namespace Go.Proofs.Ythndnammnnallaa.Sy
open Go.RowKit

theorem cmpS_eq (op : BinOp) (x y : Int) : cmpS op x y = cmpD op x y := by
  cases op <;> simp only [cmpS, cmpD, eqI_eq, ltI_eq]
  · rw [Bool.eq_iff_iff]; simp
  · rw [Bool.eq_iff_iff]; simp

section
variable {ρ : Nat → Int} {g : G}
theorem DB.not_val (b : DB) : b.not.val ρ = !b.val ρ := by
  cases b with
  | s b => rfl
  | d b => cases b <;> simp [DB.not, DB.val, B.val]
theorem DB.and_val (a b : DB) : (a.and b).val ρ = (a.val ρ && b.val ρ) := by
  cases a with
  | s a => cases a <;> simp [DB.and, DB.val]
  | d a => cases b with
    | s b => cases b <;> simp [DB.and, DB.val]
    | d b => rfl
theorem DN.e_val (n : DN) : n.e.val ρ = n.val ρ := by cases n <;> rfl
theorem mkE_val (hg : Gok ρ g) (e : E) : (mkE g e).val ρ = e.val ρ := by
  unfold mkE
  split
  · rename_i lo hi hr; (try have hi := ti_info hi)
    have h := rng_in hg _ _ hr
    split
    · rename_i hq
      rw [eqI_eq] at hq
      have hq := of_decide_eq_true hq
      have h1 : lo ≤ e.val ρ := h.1
      have h2 : e.val ρ ≤ hi := h.2
      show lo = _
      omega
    · rfl
  · rfl
theorem wrapE_val (hg : Gok ρ g) (k : IntKind) (e : E) : (wrapE g k e).val ρ = k.wrap (e.val ρ) := by
  unfold wrapE
  split
  · rename_i lo hi hr; (try have hi := ti_info hi)
    have h := rng_in hg _ _ hr
    have h1 : lo ≤ e.val ρ := h.1
    have h2 : e.val ρ ≤ hi := h.2
    split
    · rename_i hq
      rw [eqI_eq] at hq
      have hq := of_decide_eq_true hq
      show k.wrap lo = _
      rw [show lo = e.val ρ by omega]
    · split
      · rename_i hq
        simp only [Bool.and_eq_true, leI_eq, decide_eq_true_eq] at hq
        exact (wrap_same k _ ⟨show kmin k ≤ e.val ρ by omega, show e.val ρ ≤ kmax k by omega⟩).symm
      · rfl
  · rfl
theorem mkB_val (hg : Gok ρ g) (b : B) : (mkB g b).val ρ = b.val ρ := by
  unfold mkB
  split
  · rename_i t ht; exact (dec_ok hg _ _ ht).symm
  · rfl
theorem bClr_nat {k : IntKind} (hu : unsignedK k = true) {n m : Nat} (h1 : n < 2 ^ k.bits) (h2 : m < 2 ^ k.bits) : bClr k (n : Int) (m : Int) = ((n ^^^ (n &&& m) : Nat) : Int) := by
  have e : (BitVec.ofInt k.bits (n : Int) &&& ~~~BitVec.ofInt k.bits (m : Int)).toNat = n ^^^ (n &&& m) := by
    refine Nat.eq_of_testBit_eq fun j => ?_
    rw [BitVec.toNat_and, BitVec.toNat_not, Nat.testBit_and, bv_toNat h1, bv_toNat h2, Nat.testBit_xor, Nat.testBit_and]
    rw [show 2 ^ k.bits - 1 - m = 2 ^ k.bits - (m + 1) by omega, Nat.testBit_two_pow_sub_succ h2]
    by_cases hj : j < k.bits
    · simp only [hj, decide_true, Bool.true_and]; cases n.testBit j <;> cases m.testBit j <;> rfl
    · have : n.testBit j = false := Nat.testBit_lt_two_pow (Nat.lt_of_lt_of_le h1 (Nat.pow_le_pow_right (by decide) (by omega)))
      simp [this]
  unfold bClr
  rw [e, wrap_nat hu]
  exact Nat.xor_lt_two_pow h1 (Nat.and_lt_two_pow _ h2)
theorem remOk_ok (hg : Gok ρ g) {k : IntKind} {x : E} {m : Int} (h : remOk g k x m = some true) : (x.val ρ).tmod m = 0 := by
  unfold remOk at h
  split at h
  · rename_i e he
    exact quoA_rem he
  · exact of_decide_eq_true (dec_ok hg _ _ h)
theorem clrE_val (hg : Gok ρ g) {k : IntKind} {x y : E} : (clrE g k x y).val ρ = bClr k (x.val ρ) (y.val ρ) := by
  have base : (mkE g (.bin .clr k x y)).val ρ = bClr k (x.val ρ) (y.val ρ) := by rw [mkE_val hg]; rfl
  unfold clrE
  split
  · rename_i m
    split
    · rename_i hc
      simp only [Bool.and_eq_true] at hc
      obtain ⟨⟨hu, hp⟩, hm⟩ := hc
      have hp := Nat.eq_of_beq_eq_true hp
      rw [leI_eq, decide_eq_true_eq] at hm
      split
      · rename_i lo hi hr
        split
        · rename_i hr2
          simp only [Bool.and_eq_true, leI_eq, decide_eq_true_eq] at hr2
          have hin := rng_in hg _ _ hr
          have h1 : lo ≤ x.val ρ := hin.1
          have h2 : x.val ρ ≤ hi := hin.2
          split
          · rename_i hd
            have hz : (x.val ρ).tmod (Int.ofNat (m + 1)) = 0 := remOk_ok hg hd
            show x.val ρ = bClr k (x.val ρ) (Int.ofNat m)
            obtain ⟨a, ha⟩ := Int.eq_ofNat_of_zero_le (show 0 ≤ x.val ρ by omega)
            rw [ha] at hz h2 ⊢
            have hb := kmax_bits hu
            have h3 : a < 2 ^ k.bits := by omega
            have h4 : m < 2 ^ k.bits := by
              have : (m : Int) ≤ kmax k := hm
              omega
            have hz2 : a % (m + 1) = 0 := by
              have e : (Int.ofNat (m + 1)) = ((m + 1 : Nat) : Int) := rfl
              rw [e, Int.tmod_eq_emod_of_nonneg (by omega)] at hz
              omega
            rw [show (Int.ofNat m) = (m : Int) from rfl, bClr_nat hu h3 h4]
            have hand : a &&& m = 0 := by
              have e2 : m = 2 ^ Nat.log2 (m + 1) - 1 := by omega
              rw [e2, Nat.and_two_pow_sub_one_eq_mod, ← hp]
              exact hz2
            rw [hand]
            simp
          · exact base
        · exact base
      · exact base
    · exact base
  · exact base
theorem bAnd_low {k : IntKind} (hu : unsignedK k = true) {n j : Nat} (h1 : n < 2 ^ j) (h2 : 2 ^ j - 1 < 2 ^ k.bits) : bAnd k (n : Int) ((2 ^ j - 1 : Nat) : Int) = (n : Int) := by
  have hn : n < 2 ^ k.bits := by omega
  have e : (BitVec.ofInt k.bits (n : Int) &&& BitVec.ofInt k.bits ((2 ^ j - 1 : Nat) : Int)).toNat = n := by
    rw [BitVec.toNat_and, bv_toNat hn, bv_toNat h2, Nat.and_two_pow_sub_one_eq_mod, Nat.mod_eq_of_lt h1]
  unfold bAnd
  rw [e, wrap_nat hu hn]
theorem bAnd_mod {k : IntKind} (hu : unsignedK k = true) {n j : Nat} (h1 : n < 2 ^ k.bits) (h2 : 2 ^ j - 1 < 2 ^ k.bits) : bAnd k (n : Int) ((2 ^ j - 1 : Nat) : Int) = ((n % 2 ^ j : Nat) : Int) := by
  have hn : n % 2 ^ j < 2 ^ k.bits := Nat.lt_of_le_of_lt (Nat.mod_le _ _) h1
  have e : (BitVec.ofInt k.bits (n : Int) &&& BitVec.ofInt k.bits ((2 ^ j - 1 : Nat) : Int)).toNat = n % 2 ^ j := by
    rw [BitVec.toNat_and, bv_toNat h1, bv_toNat h2, Nat.and_two_pow_sub_one_eq_mod]
  unfold bAnd
  rw [e, wrap_nat hu hn]
theorem andE_val (hg : Gok ρ g) {k : IntKind} {x y : E} : (andE g k x y).val ρ = bAnd k (x.val ρ) (y.val ρ) := by
  have base : (mkE g (.bin .and k x y)).val ρ = bAnd k (x.val ρ) (y.val ρ) := by rw [mkE_val hg]; rfl
  unfold andE
  split
  · rename_i m
    split
    · rename_i hc
      simp only [Bool.and_eq_true] at hc
      obtain ⟨⟨hu, hp⟩, hm⟩ := hc
      have hp := Nat.eq_of_beq_eq_true hp
      rw [leI_eq, decide_eq_true_eq] at hm
      split
      · rename_i lo hi hr
        split
        · rename_i hr2
          simp only [Bool.and_eq_true, leI_eq, decide_eq_true_eq] at hr2
          have hin := rng_in hg _ _ hr
          have h1 : lo ≤ x.val ρ := hin.1
          have h2 : x.val ρ ≤ hi := hin.2
          rw [mkE_val hg]
          show x.val ρ = bAnd k (x.val ρ) (Int.ofNat m)
          obtain ⟨a, ha⟩ := Int.eq_ofNat_of_zero_le (show 0 ≤ x.val ρ by omega)
          have hb := kmax_bits hu
          have hm2 : hi ≤ (m : Int) := hr2.2
          have e2 : m = 2 ^ Nat.log2 (m + 1) - 1 := by omega
          have h4 : m < 2 ^ k.bits := by
            have : (m : Int) ≤ kmax k := hm
            omega
          have h5 : a < 2 ^ Nat.log2 (m + 1) := by omega
          have := bAnd_low (k := k) hu (n := a) (j := Nat.log2 (m + 1)) h5 (by omega)
          rw [← e2] at this
          rw [ha]
          exact this.symm
        · split
          · rename_i hr2
            simp only [Bool.and_eq_true, leI_eq, decide_eq_true_eq] at hr2
            have hin := rng_in hg _ _ hr
            have h1 : lo ≤ x.val ρ := hin.1
            have h2 : x.val ρ ≤ hi := hin.2
            split
            · rename_i e he
              obtain ⟨_, hmul⟩ := quoA_mul (ρ := ρ) he
              obtain ⟨a, ha⟩ := Int.eq_ofNat_of_zero_le (show 0 ≤ x.val ρ by omega)
              have hb := kmax_bits hu
              have e2 : m = 2 ^ Nat.log2 (m + 1) - 1 := by omega
              have h3 : a < 2 ^ k.bits := by omega
              have h4 : m < 2 ^ k.bits := by
                have : (m : Int) ≤ kmax k := hm
                omega
              have h6 := bAnd_mod (k := k) hu (n := a) (j := Nat.log2 (m + 1)) h3 (by omega)
              rw [← e2, ← hp] at h6
              have h7 : a % (m + 1) = 0 := by
                have h8 : (a : Int) % ((m + 1 : Nat) : Int) = 0 := by rw [← ha, hmul]; exact Int.mul_emod_right _ _
                omega
              rw [h7] at h6
              show (0 : Int) = bAnd k (x.val ρ) (Int.ofNat m)
              rw [ha]
              exact h6.symm
            · exact base
          · exact base
      · exact base
    · exact base
  · exact base
theorem shrE_val (hg : Gok ρ g) {k : IntKind} {x y : E} : (shrE g k x y).val ρ = bShr k (x.val ρ) (y.val ρ) := by
  have base : (mkE g (.bin .shr k x y)).val ρ = bShr k (x.val ρ) (y.val ρ) := by rw [mkE_val hg]; rfl
  unfold shrE
  split
  · rename_i n
    split
    · rename_i hc
      rw [eqI_eq] at hc
      have hc := of_decide_eq_true hc
      rw [mkE_val hg]
      show x.val ρ = bShr k (x.val ρ) n
      subst hc
      simp [bShr]
    · exact base
  · exact base
theorem zeroC_ok {e : E} (h : zeroC e = true) : e.val ρ = 0 := by
  unfold zeroC at h
  split at h
  · rw [eqI_eq] at h; exact of_decide_eq_true h
  · cases h
theorem addE_val (hg : Gok ρ g) {k : IntKind} {x y : E} : (addE g k x y).val ρ = k.wrap (x.val ρ + y.val ρ) := by
  unfold addE
  split
  · rename_i h; rw [wrapE_val hg, zeroC_ok h, Int.zero_add]
  · split
    · rename_i h; rw [wrapE_val hg, zeroC_ok h, Int.add_zero]
    · rw [wrapE_val hg]; rfl
theorem inRg_ok (hg : Gok ρ g) {k : IntKind} {x : E} (h : inRg g k x = true) : 0 ≤ x.val ρ ∧ x.val ρ ≤ kmax k := by
  unfold inRg at h
  split at h
  · rename_i lo hi hr
    simp only [Bool.and_eq_true, leI_eq, decide_eq_true_eq] at h
    have hin := rng_in hg _ _ hr
    have h1 : lo ≤ x.val ρ := hin.1
    have h2 : x.val ρ ≤ hi := hin.2
    exact ⟨by omega, by omega⟩
  · cases h
theorem bOr_0 {k : IntKind} (hu : unsignedK k = true) {x : Int} (h0 : 0 ≤ x) (h1 : x ≤ kmax k) : bOr k 0 x = x ∧ bOr k x 0 = x := by
  obtain ⟨a, rfl⟩ := Int.eq_ofNat_of_zero_le h0
  have hb := kmax_bits hu
  have ha : a < 2 ^ k.bits := by omega
  have h0' : (0 : Nat) < 2 ^ k.bits := by omega
  have e0 : (BitVec.ofInt k.bits (0 : Int)).toNat = 0 := bv_toNat h0'
  refine ⟨?_, ?_⟩
  · unfold bOr
    rw [BitVec.toNat_or, e0, bv_toNat ha, Nat.zero_or, wrap_nat hu ha]
  · unfold bOr
    rw [BitVec.toNat_or, e0, bv_toNat ha, Nat.or_zero, wrap_nat hu ha]
theorem orE_val (hg : Gok ρ g) {k : IntKind} {x y : E} : (orE g k x y).val ρ = bOr k (x.val ρ) (y.val ρ) := by
  unfold orE
  split
  · rename_i h
    simp only [Bool.and_eq_true] at h
    obtain ⟨h1, h2⟩ := inRg_ok hg h.2
    rw [mkE_val hg, zeroC_ok h.1.2, (bOr_0 h.1.1 h1 h2).1]
  · split
    · rename_i h
      simp only [Bool.and_eq_true] at h
      obtain ⟨h1, h2⟩ := inRg_ok hg h.2
      rw [mkE_val hg, zeroC_ok h.1.2, (bOr_0 h.1.1 h1 h2).2]
    · rw [mkE_val hg]; rfl
theorem shlE_val (hg : Gok ρ g) {k : IntKind} {x y : E} : (shlE g k x y).val ρ = bShl k (x.val ρ) (y.val ρ) := by
  unfold shlE
  split
  · rename_i h
    rw [wrapE_val hg, zeroC_ok h]
    simp [bShl]
  · rw [mkE_val hg]; rfl
theorem arithE_val (hg : Gok ρ g) {op : BinOp} {k : IntKind} {x y : E} {r : DN} (h : arithE g op k x y = some r) : arith op k (x.val ρ) (y.val ρ) = some (r.val ρ) := by
  unfold arithE at h
  split at h <;> first | cases h | skip
  all_goals first | rw [addE_val hg] | rw [orE_val hg] | rw [wrapE_val hg] | rw [mkE_val hg] | rw [clrE_val hg] | rw [andE_val hg]
  all_goals first | rfl | (simp only [arith, wrapI_eq]; done) | (simp only [arith, wrapI_eq]; rfl)
theorem shiftE_val (hg : Gok ρ g) {op : BinOp} {k : IntKind} {x y : E} {r : DN} (h : shiftE g op k x y = some r) : shiftI op k (x.val ρ) (y.val ρ) = some (r.val ρ) := by
  unfold shiftE at h
  split at h <;> first | cases h | skip
  all_goals first | rw [mkE_val hg] | rw [shrE_val hg] | rw [shlE_val hg]
  all_goals rfl
theorem divE_val (hg : Gok ρ g) {op : BinOp} {k : IntKind} {x : E} {y : Int} {r : DN} (h : divE g op k x y = some r) : divI op k (x.val ρ) y = some (r.val ρ) := by
  unfold divE at h
  split at h
  · split at h
    · rename_i e he
      cases h
      rw [wrapE_val hg]
      simp only [divI, wrapI_eq, quoA_val he]
    · cases h; rw [wrapE_val hg]; simp only [divI, wrapI_eq]; rfl
  · split at h
    · rename_i lo hi hr; (try have hi := ti_info hi)
      have hh := rng_in hg _ _ hr
      have h1 : lo ≤ x.val ρ := hh.1
      have h2 : x.val ρ ≤ hi := hh.2
      split at h
      · rename_i hq
        cases h
        simp only [Bool.and_eq_true, leI_eq, ltI_eq, decide_eq_true_eq] at hq
        simp only [divI, DN.val]
        rw [Int.tmod_eq_of_lt (by omega) (by omega)]
      · split at h
        · rename_i e he
          cases h
          simp only [divI, DN.val, quoA_rem he]
        · cases h; rw [mkE_val hg]; rfl
    · cases h; rw [mkE_val hg]; rfl
  · cases h
theorem nonneg_ok (hg : Gok ρ g) {n : DN} (h : nonneg g n = true) : ¬ n.val ρ < 0 := by
  unfold nonneg at h
  split at h
  · rw [leI_eq] at h
    have := of_decide_eq_true h
    show ¬ _ < _
    simp only [DN.val]; omega
  · split at h
    · rename_i lo hi hr; (try have hi := ti_info hi)
      have hh := rng_in hg _ _ hr
      have h1 : lo ≤ _ := hh.1
      rw [leI_eq] at h
      have := of_decide_eq_true h
      simp only [DN.val]; omega
    · cases h
theorem cmpE_val {op : BinOp} (h : isCmp op = true) (x y : E) : (cmpE op x y).val ρ = cmpD op (x.val ρ) (y.val ρ) := by
  cases op <;> simp only [isCmp, Bool.false_eq_true] at h <;> simp only [cmpE, cmpD, B.val]
  · rw [Bool.eq_iff_iff]; simp
  · rw [Bool.eq_iff_iff]; simp
theorem cmpN_val (hg : Gok ρ g) {op : BinOp} (h : isCmp op = true) (a b : DN) : (cmpN g op a b).val ρ = cmpD op (a.val ρ) (b.val ρ) := by
  unfold cmpN
  split
  · exact cmpS_eq _ _ _
  · rw [mkB_val hg, cmpE_val h, DN.e_val, DN.e_val]
theorem eqN_val (hg : Gok ρ g) (a b : DN) : (eqN g a b).val ρ = (a.val ρ == b.val ρ) := by
  unfold eqN
  rw [cmpN_val hg rfl]
  show decide _ = _
  rw [Bool.eq_iff_iff]; simp
theorem eqBo_val {a b r : DB} (h : eqBo a b = some r) : r.val ρ = (a.val ρ == b.val ρ) := by
  unfold eqBo at h
  split at h
  case h_5 a b =>
    split at h
    · rename_i he
      cases h
      rw [B.beq_eq _ _ he]
      simp [DB.val]
    · cases h
      simp only [DB.val, B.val]
      cases a.val ρ <;> cases b.val ρ <;> rfl
  all_goals cases h <;> (try rw [DB.not_val]) <;> simp [DB.val]
end

section
variable {P : Program} {w : World}

theorem run_cmp {op : BinOp} (h : isCmp op = true) (k : IntKind) (x y : Int) (t : TypeId) : (binOp op t (.int k x) (.int k y)).run P w = .ok (.bool (cmpD op x y)) w := by
  cases op <;> simp only [isCmp, Bool.false_eq_true] at h <;> simp [binOp, Op.intCmp, cmpD]
  · rfl
  · rfl
theorem run_arith {op : BinOp} {k : IntKind} {x y r : Int} (h : isArith op = true) (hr : arith op k x y = some r) (t : TypeId) : (binOp op t (.int k x) (.int k y)).run P w = .ok (.int k r) w := by
  cases op <;> simp only [isArith, Bool.false_eq_true] at h <;> simp only [arith, Option.some.injEq] at hr <;> subst hr <;> simp [binOp, Op.intArith, Op.intBits, bAnd, bOr, bXor, bClr, wrapI_eq]
theorem run_div {op : BinOp} {k : IntKind} {x y r : Int} (hr : divI op k x y = some r) (hy : y ≠ 0) (t : TypeId) : (binOp op t (.int k x) (.int k y)).run P w = .ok (.int k r) w := by
  cases op <;> simp only [divI, Option.some.injEq] at hr <;> first | (subst hr; simp [binOp, Op.intDiv, hy, wrapI_eq]; done) | cases hr
theorem run_shift {op : BinOp} {k j : IntKind} {x y r : Int} (hr : shiftI op k x y = some r) (hy : ¬ y < 0) (t : TypeId) : (binOp op t (.int k x) (.int j y)).run P w = .ok (.int k r) w := by
  cases op <;> simp only [shiftI, Option.some.injEq] at hr <;> first | (subst hr; simp [binOp, Op.shift, hy, bShl, bShr]; done) | cases hr

/-- what '==' does -/
def eqRun (P : Program) (w : World) (t : TypeId) (x y : Value) (b : Bool) : Prop := (Op.equal t x y).run P w = .ok b w
theorem eqRun_of {t : TypeId} {x y : Value} {b : Bool} (h : ∀ d, (Op.equalIn (d + 1) t x y).run P w = .ok b w) : eqRun P w t x y b := h 9999

variable {ρ : Nat → Int} {g : G} {σ : List (Nat × Nat)}
theorem den_ptr {b o : Nat} {x : Value} (h : den ρ σ (.ptr b o) = some x) : ∃ y, σ[b]? = some y ∧ x = .pointer (some ⟨y.1, o, none⟩) := by
  simp only [den] at h
  split at h
  · rename_i y hy; cases h; exact ⟨y, hy, rfl⟩
  · cases h
theorem den_slice {b o l : Nat} {c : Cp} {x : Value} (h : den ρ σ (.slice b o l c) = some x) : ∃ y, σ[b]? = some y ∧ x = .slice (some ⟨y.1, o, none⟩) l (c.den y.2) := by
  simp only [den] at h
  split at h
  · rename_i y hy; cases h; exact ⟨y, hy, rfl⟩
  · cases h
theorem den_func {f : Fn} {a c : List V} {x : Value} (h : den ρ σ (.func f a c) = some x) : ∃ y z, denL ρ σ a = some y ∧ denL ρ σ c = some z ∧ x = .func f y.toArray z.toArray := by
  simp only [den] at h
  split at h
  · rename_i y hy
    split at h
    · rename_i z hz; cases h; exact ⟨y, z, hy, hz, rfl⟩
    · cases h
  · cases h
theorem den_iface {t : TypeId} {v : V} {x : Value} (h : den ρ σ (.iface t v) = some x) : ∃ y, den ρ σ v = some y ∧ x = .iface t y := by
  simp only [den] at h
  split at h
  · rename_i y hy; cases h; exact ⟨y, hy, rfl⟩
  · cases h
theorem den_agg {cs : List V} {x : Value} (h : den ρ σ (.agg cs) = some x) : ∃ y, denL ρ σ cs = some y ∧ x = .agg y.toArray := by
  simp only [den] at h
  split at h
  · rename_i y hy; cases h; exact ⟨y, hy, rfl⟩
  · cases h
theorem den_tup {cs : List V} {x : Value} (h : den ρ σ (.tup cs) = some x) : ∃ y, denL ρ σ cs = some y ∧ x = .tuple y.toArray := by
  simp only [den] at h
  split at h
  · rename_i y hy; cases h; exact ⟨y, hy, rfl⟩
  · cases h
theorem den_int {k : IntKind} {n : DN} {x : Value} (h : den ρ σ (.int k n) = some x) : x = .int k (n.val ρ) := by
  simp only [den, Option.some.injEq] at h; exact h.symm
theorem den_bool {b : DB} {x : Value} (h : den ρ σ (.bool b) = some x) : x = .bool (b.val ρ) := by
  simp only [den, Option.some.injEq] at h; exact h.symm

theorem upto_eq : ∀ k i, upto k i = List.range' i k
  | 0, i => rfl
  | k + 1, i => by rw [upto, upto_eq k (i + 1), List.range'_succ]
/-- what a test of two parts does -/
def EqRun (P : Program) (ρ : Nat → Int) (σ : List (Nat × Nat)) (d : Nat) (g : TypeId → V → V → Option DB) : Prop :=
  ∀ (t : TypeId) (x y : V) (a b : Value) (r : DB), g t x y = some r → den ρ σ x = some a → den ρ σ y = some b → ∀ w, (Op.equalIn d t a b).run P w = .ok (r.val ρ) w
theorem eqFs_run {d : Nat} {g : TypeId → V → V → Option DB} (hg : EqRun P ρ σ d g) {cs ds : List V} {xs ys : List Value} (hx : denL ρ σ cs = some xs) (hy : denL ρ σ ds = some ys) (w : World) :
    ∀ (fs : List Field) (r : DB), eqFs P g cs ds fs = some r → (Op.eqFields d xs.toArray ys.toArray fs).run P w = .ok (r.val ρ) w
  | [], r, h => by simp only [eqFs, Option.some.injEq] at h; subst h; simp [Op.eqFields, DB.val]
  | f :: fs, r, h => by
    simp only [eqFs] at h
    split at h
    · cases h
    · rename_i hn
      have hn : f.name ≠ "_" := by simpa using hn
      split at h
      · rename_i x y h1 h2
        obtain ⟨a, ha, hr1⟩ := sub_part h1 hx
        obtain ⟨b, hb, hr2⟩ := sub_part h2 hy
        simp only [Op.eqFields, hn, ne_eq, not_false_eq_true, if_true, Sem.run_bind, hr1, hr2, Result.andThen_ok]
        split at h
        · rename_i h3
          cases h
          rw [hg _ _ _ _ _ _ h3 ha hb]
          simp [DB.val]
        · rename_i q hq h3
          rw [hg _ _ _ _ _ _ h3 ha hb]
          split at h
          · rename_i q2 h4
            cases h
            have ih := eqFs_run hg hx hy w fs q2 h4
            simp only [Result.andThen_ok, DB.and_val]
            cases q.val ρ
            · simp
            · simpa using ih
          · cases h
        · cases h
      · cases h
theorem eqIs_run {d : Nat} {g : TypeId → V → V → Option DB} (hg : EqRun P ρ σ d g) {cs ds : List V} {xs ys : List Value} (hx : denL ρ σ cs = some xs) (hy : denL ρ σ ds = some ys) {e : TypeId} {z : Nat} (w : World) :
    ∀ (is : List Nat) (r : DB), eqIs P g e z cs ds is = some r → (Op.eqItems d e z xs.toArray ys.toArray is).run P w = .ok (r.val ρ) w
  | [], r, h => by simp only [eqIs, Option.some.injEq] at h; subst h; simp [Op.eqItems, DB.val]
  | i :: is, r, h => by
    simp only [eqIs] at h
    split at h
    · rename_i x y h1 h2
      obtain ⟨a, ha, hr1⟩ := sub_part h1 hx
      obtain ⟨b, hb, hr2⟩ := sub_part h2 hy
      simp only [Op.eqItems, Sem.run_bind, hr1, hr2, Result.andThen_ok]
      split at h
      · rename_i h3
        cases h
        rw [hg _ _ _ _ _ _ h3 ha hb]
        simp [DB.val]
      · rename_i q hq h3
        rw [hg _ _ _ _ _ _ h3 ha hb]
        split at h
        · rename_i q2 h4
          cases h
          have ih := eqIs_run hg hx hy w is q2 h4
          simp only [Result.andThen_ok, DB.and_val]
          cases q.val ρ
          · simp
          · simpa using ih
        · cases h
      · cases h
    · cases h
theorem eqV_run (hg : Gok ρ g) (dd : Nat) : ∀ d, EqRun P ρ σ (dd + d) (eqV P g d)
  | 0 => by intro t x y a b r h; simp [eqV] at h
  | d + 1 => by
    intro t x y a b r h ha hb w
    have ih := eqV_run hg dd d
    rw [show dd + (d + 1) = (dd + d) + 1 from rfl]
    simp only [eqV] at h
    split at h
    · rename_i hu; (try have hu := und_eq hu)
      split at h
      · cases (den_bool ha)
        cases (den_bool hb)
        rw [eqBo_val h]
        simp only [Op.equalIn, Sem.run_bind, run_underlying hu, Result.andThen_ok]
        rfl
      · cases h
    · rename_i hu; (try have hu := und_eq hu)
      split at h
      · rename_i j p k q
        split at h
        · rename_i hjk
          have hjk := kindNo_inj hjk
          subst hjk
          cases h
          cases (den_int ha)
          cases (den_int hb)
          rw [eqN_val hg]
          simp only [Op.equalIn, Sem.run_bind, run_underlying hu, Result.andThen_ok]
          simp
        · cases h
      · cases h
    · rename_i n e hu; (try have hu := und_eq hu)
      split at h
      · rename_i cs ds
        obtain ⟨xs, hx, rfl⟩ := den_agg ha
        obtain ⟨ys, hy, rfl⟩ := den_agg hb
        split at h
        · rename_i z hz
          unfold size? at hz
          split at hz
          · rename_i i hi; (try have hi := ti_info hi)
            cases hz
            have hc : P.cellsOf e = i.size := by simp [Program.cellsOf, hi]
            rw [run_equalIn_array w (dd + d) _ _ hu hi, hc, List.range_eq_range', ← upto_eq]
            exact eqIs_run ih hx hy w _ r h
          · cases hz
        · cases h
      · cases h
    · rename_i fs hu; (try have hu := und_eq hu)
      split at h
      · rename_i cs ds
        obtain ⟨xs, hx, rfl⟩ := den_agg ha
        obtain ⟨ys, hy, rfl⟩ := den_agg hb
        split at h
        · rename_i hst
          have hf : P.fieldsOf t = fs := by simp [Program.fieldsOf, hu]
          rw [run_equalIn_struct w (dd + d) t _ _ (by rw [hf]; exact hu) hst, hf]
          exact eqFs_run ih hx hy w _ r h
        · cases h
      · cases h
    · cases h

/-- values of which '==' may ask -/
def plainEq : V → Bool
  | .int _ _ | .agg _ => false
  | _ => true
theorem same_run {t : TypeId} {cst : Bool} {x y : V} {r : DB} {a b : Value} (hg : Gok ρ g) (h : same P g t cst x y = some r) (ha : den ρ σ x = some a) (hb : den ρ σ y = some b) (w : World) :
    eqRun P w t a b (r.val ρ) ∧ (∀ k n j m, ¬ (a = .int k n ∧ b = .int j m)) ∧ (∀ s s', ¬ (a = .string s ∧ b = .string s')) ∧ (∀ cs ds, a = .agg cs → b = .agg ds → P.eqGuardType P.depth t = false) ∧ (a = .nilIface → b = .nilIface → cst = true) ∧ (∀ k n j m, ¬ (a = .float k n ∧ b = .float j m)) ∧ (∀ k n n' j m m', ¬ (a = .complex k n n' ∧ b = .complex j m m')) := by
  unfold same at h
  split at h
  · rename_i hu; (try have hu := und_eq hu)
    split at h
    · cases (den_bool ha)
      cases (den_bool hb)
      refine ⟨?_, by simp, by simp, by simp, by simp, by simp, by simp⟩
      refine eqRun_of fun d => ?_
      simp only [Op.equalIn, Sem.run_bind, run_underlying hu, Result.andThen_ok]
      rw [eqBo_val h]
      rfl
    · cases h
  · rename_i e hu; (try have hu := und_eq hu)
    split at h
    · cases h
      simp only [den, Option.some.injEq] at ha hb
      subst ha; subst hb
      refine ⟨?_, by simp, by simp, by simp, by simp, by simp, by simp⟩
      refine eqRun_of fun d => ?_
      simp only [Op.equalIn, Sem.run_bind, run_underlying hu, Result.andThen_ok]
      rfl
    · cases h
      simp only [den, Option.some.injEq] at ha
      obtain ⟨y, _, rfl⟩ := den_ptr hb
      subst ha
      refine ⟨?_, by simp, by simp, by simp, by simp, by simp, by simp⟩
      refine eqRun_of fun d => ?_
      simp only [Op.equalIn, Sem.run_bind, run_underlying hu, Result.andThen_ok]
      rfl
    · cases h
      simp only [den, Option.some.injEq] at hb
      obtain ⟨y, _, rfl⟩ := den_ptr ha
      subst hb
      refine ⟨?_, by simp, by simp, by simp, by simp, by simp, by simp⟩
      refine eqRun_of fun d => ?_
      simp only [Op.equalIn, Sem.run_bind, run_underlying hu, Result.andThen_ok]
      rfl
    · rename_i b1 o1 b2 o2
      split at h
      · rename_i z hz
        split at h
        · rename_i hc
          cases h
          simp only [Bool.and_eq_true] at hc
          obtain ⟨hc1, hc2⟩ := hc
          have e := Nat.eq_of_beq_eq_true hc1
          subst e
          obtain ⟨y1, h1, rfl⟩ := den_ptr ha
          obtain ⟨y2, h2, rfl⟩ := den_ptr hb
          rw [h1] at h2; cases h2
          refine ⟨?_, by simp, by simp, by simp, by simp, by simp, by simp⟩
          have hz0 : z ≠ 0 := by have : 0 < z := by simpa using hc2
                                 omega
          have e2 : Nat.beq o1 o2 = decide (o1 = o2) := by rw [Bool.eq_iff_iff, decide_eq_true_iff]; exact ⟨Nat.eq_of_beq_eq_true, fun h => by subst h; simp⟩
          refine eqRun_of fun d => ?_
          simp only [Op.equalIn, run_underlying hu, DB.val, Sem.run_bind, Result.andThen_ok, size_run hz w, hz0, ne_eq, not_false_eq_true, if_true, sameAddr, beq_self_eq_true]
          simp only [Sem.run_pure, e2]
          congr 1
          rw [Bool.eq_iff_iff]
          simp
        · cases h
      · cases h
    · cases h
  · rename_i hu; (try have hu := und_eq hu)
    split at h
    · split at h
      · cases h
        simp only [den, Option.some.injEq] at ha hb
        subst ha; subst hb
        refine ⟨?_, by simp, by simp, by simp, by simp, by simp, by simp⟩
        refine eqRun_of fun d => ?_
        simp only [Op.equalIn, Sem.run_bind, run_underlying hu, Result.andThen_ok]
        rfl
      · cases h
    · cases h
      simp only [den, Option.some.injEq] at ha
      obtain ⟨y, _, rfl⟩ := den_iface hb
      subst ha
      refine ⟨?_, by simp, by simp, by simp, by simp, by simp, by simp⟩
      refine eqRun_of fun d => ?_
      simp only [Op.equalIn, Sem.run_bind, run_underlying hu, Result.andThen_ok]
      rfl
    · cases h
      simp only [den, Option.some.injEq] at hb
      obtain ⟨y, _, rfl⟩ := den_iface ha
      subst hb
      refine ⟨?_, by simp, by simp, by simp, by simp, by simp, by simp⟩
      refine eqRun_of fun d => ?_
      simp only [Op.equalIn, Sem.run_bind, run_underlying hu, Result.andThen_ok]
      rfl
    · cases h
  · rename_i hu; (try have hu := und_eq hu)
    split at h
    · cases h
      simp only [den, Option.some.injEq] at ha hb
      subst ha; subst hb
      refine ⟨?_, by simp, by simp, by simp, by simp, by simp, by simp⟩
      refine eqRun_of fun d => ?_
      simp only [Op.equalIn, Sem.run_bind, run_underlying hu, Result.andThen_ok]
      rfl
    · cases h
      simp only [den, Option.some.injEq] at ha
      obtain ⟨y, _, rfl⟩ := den_slice hb
      subst ha
      refine ⟨?_, by simp, by simp, by simp, by simp, by simp, by simp⟩
      refine eqRun_of fun d => ?_
      simp only [Op.equalIn, Sem.run_bind, run_underlying hu, Result.andThen_ok]
      rfl
    · cases h
      simp only [den, Option.some.injEq] at hb
      obtain ⟨y, _, rfl⟩ := den_slice ha
      subst hb
      refine ⟨?_, by simp, by simp, by simp, by simp, by simp, by simp⟩
      refine eqRun_of fun d => ?_
      simp only [Op.equalIn, Sem.run_bind, run_underlying hu, Result.andThen_ok]
      rfl
    · cases h
  · rename_i hu; (try have hu := und_eq hu)
    split at h
    · cases h
      simp only [den, Option.some.injEq] at ha hb
      subst ha; subst hb
      refine ⟨?_, by simp, by simp, by simp, by simp, by simp, by simp⟩
      refine eqRun_of fun d => ?_
      simp only [Op.equalIn, Sem.run_bind, run_underlying hu, Result.andThen_ok]
      rfl
    · cases h
      simp only [den, Option.some.injEq] at ha
      obtain ⟨y, z, _, _, rfl⟩ := den_func hb
      subst ha
      refine ⟨?_, by simp, by simp, by simp, by simp, by simp, by simp⟩
      refine eqRun_of fun d => ?_
      simp only [Op.equalIn, Sem.run_bind, run_underlying hu, Result.andThen_ok]
      rfl
    · cases h
      simp only [den, Option.some.injEq] at hb
      obtain ⟨y, z, _, _, rfl⟩ := den_func ha
      subst hb
      refine ⟨?_, by simp, by simp, by simp, by simp, by simp, by simp⟩
      refine eqRun_of fun d => ?_
      simp only [Op.equalIn, Sem.run_bind, run_underlying hu, Result.andThen_ok]
      rfl
    · cases h
  · rename_i hu0; have hu := und_eq hu0
    split at h
    · rename_i hgt
      have hrun := eqV_run (P := P) (σ := σ) hg 9988 12 t x y a b r h ha hb w
      have hagg : ∃ cs ds, x = .agg cs ∧ y = .agg ds := by
        simp only [eqV, hu0] at h
        split at h
        · exact ⟨_, _, rfl, rfl⟩
        · cases h
      obtain ⟨cs, ds, rfl, rfl⟩ := hagg
      obtain ⟨xs, hx, rfl⟩ := den_agg ha
      obtain ⟨ys, hy, rfl⟩ := den_agg hb
      exact ⟨hrun, by simp, by simp, fun _ _ _ _ => hgt, by simp, by simp, by simp⟩
    · cases h
  · rename_i hu0; have hu := und_eq hu0
    split at h
    · rename_i hgt
      have hrun := eqV_run (P := P) (σ := σ) hg 9988 12 t x y a b r h ha hb w
      have hagg : ∃ cs ds, x = .agg cs ∧ y = .agg ds := by
        simp only [eqV, hu0] at h
        split at h
        · exact ⟨_, _, rfl, rfl⟩
        · cases h
      obtain ⟨cs, ds, rfl, rfl⟩ := hagg
      obtain ⟨xs, hx, rfl⟩ := den_agg ha
      obtain ⟨ys, hy, rfl⟩ := den_agg hb
      exact ⟨hrun, by simp, by simp, fun _ _ _ _ => hgt, by simp, by simp, by simp⟩
    · cases h
  · cases h
end
end Go.Proofs.Ythndnammnnallaa.Sy
