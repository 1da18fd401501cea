/- Plain facts of pages and heads: they come back from their words. -/
import Derived.Test.YtihlbfbplmehiaaPageF
namespace Go.Proofs.Ytihlbfbplmehiaa

theorem Pg.right_iff (p : Pg) : p.right = true ↔ p.s < 512 ∧ 1 ≤ p.q ∧ p.q ≤ 2147483648 ∧ (p.g = false ∨ (p.a = 0 ∧ p.b = 0 ∧ p.c = 0 ∧ p.d = 0)) := by
  simp [Pg.right, and_assoc]

theorem Pg.words_right {p : Pg} (h : p.right = true) : p.words = [p.first, p.q, p.a, p.b, p.c, p.d, 1526644958] := by unfold Pg.words; rw [if_pos h]
theorem Pg.words_not {p : Pg} (h : p.right = false) : p.words = [] := by unfold Pg.words; rw [if_neg (by simp [h])]

theorem cand_words {p : Pg} (hp : p.ok) (h : p.right = true) : cand p.words = p := by
  rw [Pg.words_right h]
  obtain ⟨h1, _⟩ := (Pg.right_iff p).1 h
  obtain ⟨⟨h0, _⟩, _⟩ := hp
  obtain ⟨s, q, g, a, b, c, d⟩ := p
  simp only at h0 h1
  cases g <;> simp [cand, Pg.first] <;> omega

theorem rd_words {p : Pg} (hp : p.ok) (h : p.right = true) : rd p.words = (p, 1) := by
  have hc := cand_words hp h
  have hl : p.words.length = 7 := by rw [Pg.words_right h]; rfl
  have hk : kind p.words p.words 7 = 1 := by
    unfold kind
    rw [if_neg (by omega), if_neg, if_pos rfl]
    rw [Pg.words_right h]
    simp [free, ones]
  unfold rd
  rw [if_neg (by omega), hc, hk]
  simp

theorem words_inj {p q : Pg} (hp : p.ok) (hq : q.ok) (h1 : p.right = true) (h2 : q.right = true) (e : p.words = q.words) : p = q := by
  have a := cand_words hp h1
  have b := cand_words hq h2
  rw [← a, e, b]

theorem count_header {n : Int} (h1 : n ≤ 2147483648) : count (header n) = (n, 1) := by
  have e : header n = [2970353665, n, 4294967295 - n, 1526644958] := by unfold header; rw [if_neg (by omega)]
  have hk : kind [2970353665, n, 4294967295 - n, 1526644958] [2970353665, n, 4294967295 - n, 1526644958] 4 = 1 := by simp [kind, free, ones]
  have e1 : ([2970353665, n, 4294967295 - n, 1526644958] : List Int)[1]?.getD 0 = n := rfl
  unfold count
  rw [e, e1, e, hk]
  simp
theorem header_nil {n : Int} : header n = [] ↔ n > 2147483648 := by
  unfold header; split <;> simp <;> omega
end Go.Proofs.Ytihlbfbplmehiaa
