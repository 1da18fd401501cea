/- The evaluator over memory known by name: loops by an invariant: it is sound. -/
import Derived.Test.YtkljleenmmeneaaGreatDoorTop
namespace Go.Proofs.YtkljleenmmeneaaGreatDoor.Sy
open Go.RowKit

/-- the variables, some of them other numbers -/
def subV (ρ : Nat → Int) (s : List (Nat × E)) : Nat → Int := fun i => match lookS s i with
  | some e => e.val ρ
  | none => ρ i
section
variable {ρ : Nat → Int} {s : List (Nat × E)} {g : G}
/-- rows of numbers are as they were -/
def Hi (s : List (Nat × E)) : Prop := ∀ j, 1000 ≤ j → lookS s j = none
theorem subst_val (hs : Hi s) : ∀ (e : E), (e.subst s).val ρ = e.val (subV ρ s)
  | .ld k a i => by
    simp only [E.subst, E.val, subst_val hs i]
    congr 1
    unfold subV
    rw [hs _ (by unfold arrIdx; omega)]
  | .v i => by
    simp only [E.subst, E.val, subV]
    split <;> rename_i h <;> rw [h] <;> rfl
  | .c n => rfl
  | .bin o k a b => by simp only [E.subst, E.val, subst_val hs a, subst_val hs b]
  | .wrap k a => by simp only [E.subst, E.val, subst_val hs a]
theorem substB_val (hs : Hi s) : ∀ (b : B), (b.subst s).val ρ = b.val (subV ρ s)
  | .lt a b => by simp only [B.subst, B.val, subst_val hs]
  | .eq a b => by simp only [B.subst, B.val, subst_val hs]
  | .not b => by simp only [B.subst, B.val, substB_val hs b]
  | .and a b => by simp only [B.subst, B.val, substB_val hs a, substB_val hs b]
theorem wrap_mod2 (k : IntKind) (n : Int) : k.wrap n % 2 ^ k.bits = n % 2 ^ k.bits := by
  unfold IntKind.wrap
  cases k <;> simp only [IntKind.bits, IntKind.signed, Bool.true_and, Bool.false_and, Bool.false_eq_true, if_false, if_true] <;> (try split) <;> omega
theorem linA_val (k : IntKind) : ∀ (e : E) (s : Int) (p : List (E × Int) × Int), (sumA ρ (linA k s e p).1 + (linA k s e p).2) % 2 ^ k.bits = (sumA ρ p.1 + p.2 + s * e.val ρ) % 2 ^ k.bits
  | .c n, s, (l, c) => by
    simp only [linA, E.val]
    congr 1; omega
  | .v i, s, (l, c) => by
    simp only [linA, addA_val]
    congr 1; omega
  | .ld _ _ _, s, (l, c) => by
    simp only [linA, addA_val]
    congr 1; omega
  | .wrap j a, s, (l, c) => by
    simp only [linA]
    split
    · rename_i h
      have h := kindNo_inj h
      subst h
      rw [linA_val j a s (l, c)]
      simp only [E.val]
      rw [Int.add_emod, Int.mul_emod, ← wrap_mod2 j (a.val ρ), ← Int.mul_emod, ← Int.add_emod]
    · simp only [addA_val]
      congr 1; omega
  | .bin o j a b, s, (l, c) => by
    simp only [linA]
    cases o
    case add =>
      simp only
      rw [linA_val k b s _, Int.add_emod, linA_val k a s (l, c), ← Int.add_emod]
      simp only [E.val, EO.val, Int.mul_add]
      congr 1; omega
    case sub =>
      simp only
      rw [linA_val k b (-s) _, Int.add_emod, linA_val k a s (l, c), ← Int.add_emod]
      simp only [E.val, EO.val, Int.mul_sub, Int.neg_mul]
      congr 1; omega
    all_goals
      simp only [addA_val]
      congr 1; omega
theorem lessX_ok {a b : E} (h : lessX a b = true) : a.val ρ < b.val ρ := by
  unfold lessX at h
  simp only [Bool.and_eq_true, ltI_eq, decide_eq_true_eq] at h
  have e1 := linX_val (ρ := ρ) b (-1) (linX 1 a ([], 0))
  have e2 := linX_val (ρ := ρ) a 1 ([], 0)
  rw [noneA_val (ρ := ρ) _ h.1] at e1
  simp only [sumA] at e2
  omega
theorem zeroA_val (p : Int) : ∀ (l : List (E × Int)), zeroA p l = true → sumA ρ l % p = 0
  | [], _ => by simp [sumA]
  | (e, n) :: l, h => by
    simp only [zeroA, Bool.and_eq_true, eqI_eq, decide_eq_true_eq] at h
    have h2 := zeroA_val p l h.2
    simp only [sumA]
    rw [Int.add_emod, h2, Int.mul_emod, h.1]
    simp
theorem inK_ok (hg : Gok ρ g) {k : IntKind} {e : E} (h : inK g k e = true) : kmin k ≤ e.val ρ ∧ e.val ρ ≤ kmax k := by
  unfold inK at h
  split at h
  · rename_i lo hi hr
    simp only [Bool.and_eq_true, leI_eq, decide_eq_true_eq] at h
    have := rng_in hg _ _ hr
    exact ⟨Int.le_trans h.1 this.1, Int.le_trans this.2 h.2⟩
  · cases h
theorem kdist {k : IntKind} {x y : Int} (hx : kmin k ≤ x ∧ x ≤ kmax k) (hy : kmin k ≤ y ∧ y ≤ kmax k) (h : (x - y) % 2 ^ k.bits = 0) : x = y := by
  cases k <;> simp only [kmin, kmax, IntKind.bits] at hx hy h <;> omega
theorem sameW_ok (hg : Gok ρ g) {k : IntKind} {a b : E} (h : sameW g k a b = true) : a.val ρ = b.val ρ := by
  unfold sameW at h
  simp only [Bool.and_eq_true] at h
  obtain ⟨⟨h1, h2⟩, h3⟩ := h
  refine kdist (inK_ok hg h1) (inK_ok hg h2) ?_
  simp only [eqI_eq, decide_eq_true_eq] at h3
  have e1 := linA_val (ρ := ρ) k b (-1) (linA k 1 a ([], 0))
  have e2 := linA_val (ρ := ρ) k a 1 ([], 0)
  have hz := zeroA_val (ρ := ρ) _ _ h3.1
  have e3 : (sumA ρ (linA k (-1) b (linA k 1 a ([], 0))).1 + (linA k (-1) b (linA k 1 a ([], 0))).2) % 2 ^ k.bits = 0 := by
    rw [Int.add_emod, hz, h3.2]; simp
  rw [e3] at e1
  simp only [sumA] at e2
  have e4 : (sumA ρ (linA k 1 a ([], 0)).1 + (linA k 1 a ([], 0)).2 + -1 * b.val ρ) % 2 ^ k.bits = (a.val ρ - b.val ρ) % 2 ^ k.bits := by
    rw [Int.add_emod, e2, ← Int.add_emod]
    congr 1; omega
  rw [← e4, ← e1]
theorem sameE_ok (hg : Gok ρ g) {a b : E} (h : sameE g a b = true) : a.val ρ = b.val ρ := by
  unfold sameE at h
  simp only [Bool.or_eq_true] at h
  rcases h with h | h
  · rw [E.beq_eq _ _ h]
  · split at h
    · rename_i hd
      exact of_decide_eq_true (dec_ok hg _ _ hd)
    · split at h
      · exact sameW_ok hg h
      · split at h
        · exact sameW_ok hg h
        · cases h
theorem dn_e_val (n : DN) : n.e.val ρ = n.val ρ := by cases n <;> rfl
theorem db_b_val (b : DB) : b.b.val ρ = b.val ρ := by
  cases b with
  | s b => cases b <;> rfl
  | d b => rfl

theorem take_get {α : Type} {l : List α} {n i : Nat} {x : α} (h : l[i]? = some x) (hi : i < n) : (l.take n)[i]? = some x := by rw [List.getElem?_take, if_pos hi]; exact h
mutual
theorem vinst_ok (hg : Gok ρ g) (hs : Hi s) {σ : List (Nat × Nat)} {nT : Nat} : ∀ (t v : V) (x : Value), vinst g s nT t v = true → den ρ σ v = some x → den (subV ρ s) (σ.take nT) t = some x
  | .int j a, v, x, h, hx => by
    cases v <;> try (simp [vinst] at h; done)
    rename_i k b
    simp only [vinst, Bool.and_eq_true] at h
    have hk := kindNo_inj h.1
    subst hk
    have := sameE_ok hg h.2
    rw [subst_val hs, dn_e_val, dn_e_val] at this
    simp only [den] at hx ⊢
    rw [this]; exact hx
  | .bool a, v, x, h, hx => by
    cases v <;> try (simp [vinst] at h; done)
    rename_i b
    simp only [vinst] at h
    have := congrArg (B.val ρ) (B.beq_eq _ _ h)
    rw [substB_val hs, db_b_val, db_b_val] at this
    simp only [den] at hx ⊢
    rw [this]; exact hx
  | .str a, v, x, h, hx => by
    cases v <;> try (simp [vinst] at h; done)
    rename_i b
    simp only [vinst, baEq_eq, decide_eq_true_eq] at h
    subst h
    simpa only [den] using hx
  | .nilp, v, x, h, hx | .nils, v, x, h, hx | .nili, v, x, h, hx | .nilm, v, x, h, hx | .nilf, v, x, h, hx => by
    cases v <;> try (simp [vinst] at h; done)
    simpa only [den] using hx
  | .ptr b o, v, x, h, hx => by
    cases v <;> try (simp [vinst] at h; done)
    rename_i b' o'
    simp only [vinst, Bool.and_eq_true] at h
    obtain ⟨⟨h1, h2⟩, h3⟩ := h
    rw [← Nat.eq_of_beq_eq_true h1, ← Nat.eq_of_beq_eq_true h2] at hx
    simp only [den] at hx ⊢
    cases hb : σ[b]? with
    | none => rw [hb] at hx; cases hx
    | some y => rw [hb] at hx; rw [take_get hb (by simpa using h3)]; exact hx
  | .slice b o l c, v, x, h, hx => by
    cases v <;> try (simp [vinst] at h; done)
    rename_i b' o' l' c'
    simp only [vinst, Bool.and_eq_true] at h
    obtain ⟨⟨⟨⟨h1, h2⟩, h4⟩, h3⟩, h5⟩ := h
    have hc : c = c' := by
      cases c <;> cases c' <;> first | (rw [Nat.eq_of_beq_eq_true h5]) | cases h5
    rw [← Nat.eq_of_beq_eq_true h1, ← Nat.eq_of_beq_eq_true h2, ← Nat.eq_of_beq_eq_true h4, ← hc] at hx
    simp only [den] at hx ⊢
    cases hb : σ[b]? with
    | none => rw [hb] at hx; cases hx
    | some y => rw [hb] at hx; rw [take_get hb (by simpa using h3)]; exact hx
  | .pel b o z i j, v, x, h, hx => by
    cases v <;> try (simp [vinst] at h; done)
    rename_i b' o' z' i' j'
    simp only [vinst, Bool.and_eq_true] at h
    obtain ⟨⟨⟨⟨⟨h1, h3⟩, h6⟩, h7⟩, h4⟩, h5⟩ := h
    have e1 := sameE_ok hg h4
    have e2 := sameE_ok hg h5
    rw [subst_val hs] at e1 e2
    rw [← Nat.eq_of_beq_eq_true h1, ← Nat.eq_of_beq_eq_true h6, ← Nat.eq_of_beq_eq_true h7] at hx
    simp only [den] at hx ⊢
    cases hb : σ[b]? with
    | none => rw [hb] at hx; cases hx
    | some y => rw [hb] at hx; rw [take_get hb (by simpa using h3), e1, e2]; exact hx
  | .sl b o l, v, x, h, hx => by
    cases v <;> try (simp [vinst] at h; done)
    rename_i b' o' l'
    simp only [vinst, Bool.and_eq_true] at h
    obtain ⟨⟨⟨h1, h3⟩, h4⟩, h5⟩ := h
    have e1 := sameE_ok hg h4
    have e2 := sameE_ok hg h5
    rw [subst_val hs] at e1 e2
    rw [← Nat.eq_of_beq_eq_true h1] at hx
    simp only [den] at hx ⊢
    cases hb : σ[b]? with
    | none => rw [hb] at hx; cases hx
    | some y => rw [hb] at hx; rw [take_get hb (by simpa using h3), e1, e2]; exact hx
  | .map b, v, x, h, hx => by
    cases v <;> try (simp [vinst] at h; done)
    rename_i b'
    simp only [vinst, Bool.and_eq_true] at h
    rw [← Nat.eq_of_beq_eq_true h.1] at hx
    simp only [den] at hx ⊢
    cases hb : σ[b]? with
    | none => rw [hb] at hx; cases hx
    | some y => rw [hb] at hx; rw [take_get hb (by simpa using h.2)]; exact hx
  | .iface t v, w, x, h, hx => by
    cases w <;> try (simp [vinst] at h; done)
    rename_i t' v'
    simp only [vinst, Bool.and_eq_true] at h
    simp only [den] at hx
    cases hv : den ρ σ v' with
    | none => rw [hv] at hx; cases hx
    | some y =>
      rw [hv] at hx
      have := vinst_ok hg hs v v' y h.2 hv
      simp only [den, this, Nat.eq_of_beq_eq_true h.1]
      exact hx
  | .agg cs, w, x, h, hx => by
    cases w <;> try (simp [vinst] at h; done)
    rename_i ds
    simp only [vinst] at h
    simp only [den] at hx
    cases hv : denL ρ σ ds with
    | none => rw [hv] at hx; cases hx
    | some y =>
      rw [hv] at hx
      have := vinsts_ok hg hs cs ds y h hv
      simp only [den, this]
      exact hx
  | .tup cs, w, x, h, hx => by
    cases w <;> try (simp [vinst] at h; done)
    rename_i ds
    simp only [vinst] at h
    simp only [den] at hx
    cases hv : denL ρ σ ds with
    | none => rw [hv] at hx; cases hx
    | some y =>
      rw [hv] at hx
      have := vinsts_ok hg hs cs ds y h hv
      simp only [den, this]
      exact hx
  | .func _ _ _, b, _, h, _ => by cases b <;> simp [vinst] at h
theorem vinsts_ok (hg : Gok ρ g) (hs : Hi s) {σ : List (Nat × Nat)} {nT : Nat} : ∀ (t v : List V) (x : List Value), vinsts g s nT t v = true → denL ρ σ v = some x → denL (subV ρ s) (σ.take nT) t = some x
  | [], [], x, _, hx => by rw [denL_nil] at hx ⊢; exact hx
  | a :: l, b :: k, x, h, hx => by
    simp only [vinsts, Bool.and_eq_true] at h
    obtain ⟨y, z, h1, h2, rfl⟩ := denL_cons_eq hx
    exact denL_cons (vinst_ok hg hs a b y h.1 h1) (vinsts_ok hg hs l k z h.2 h2)
  | [], _ :: _, _, h, _ => by simp [vinsts] at h
  | _ :: _, [], _, h, _ => by simp [vinsts] at h
end
end
end Go.Proofs.YtkljleenmmeneaaGreatDoor.Sy
