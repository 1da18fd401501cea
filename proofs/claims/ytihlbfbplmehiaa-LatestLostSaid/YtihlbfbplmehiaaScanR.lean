/- The statements' own first question: what the document fixes of scan. -/
import Derived.Test.YtihlbfbplmehiaaScanQ
namespace Go.Proofs.Ytihlbfbplmehiaa
open Go.RowKit Go.Shelf
set_option maxHeartbeats 4000000

/-- a slice of blocks -/
theorem bl_found {w : World} {base : Nat} {e : TypeId} {v : Value} {l : List Int} {m : Nat} (h : w.ownsRow base e 66 v m (foundCells l m)) (hr : ∀ x ∈ l, 0 ≤ x ∧ x < 4294967296) : Bl w v (foundBks l m) :=
  Bl.of_own (by rw [foundBks_length, ← foundCells_eq]; exact h) (foundBks_ok hr m)
/-- words that the call owns -/
theorem sl_own {w : World} {base : Nat} {e : TypeId} {v : Value} {n : Nat} {l : List Int} (h : w.ownsRow base e 1 v n (l.map uv)) (hn : l.length = n) (hb : n ≤ 1000000) (hr : ∀ x ∈ l, 0 ≤ x ∧ x < 4294967296) : Sl w v l := by
  subst hn
  exact Ow.sl (base := base) (e := e) ⟨h, by omega, hr⟩
theorem sl_slice {w : World} {v : Value} {l : List Int} (h : Sl w v l) (hn : l ≠ []) : ∃ b off cap, v = .slice (some ⟨b, off, none⟩) l.length cap ∧ l.length ≤ cap ∧ cap ≤ 9223372036854775807 ∧ b < w.heap.size := by
  obtain ⟨b, off, cap, h1, h2, h3, h4, _⟩ := h.cells hn
  exact ⟨b, off, cap, h1, h2, h3, h4⟩

theorem u32_pgW {ps : List Pg} (h : ∀ p ∈ ps, p.ok) (k : Nat) : ∀ x ∈ pageW ps k, 0 ≤ x ∧ x < 4294967296 := by
  have ho : ∀ x ∈ ones7, 0 ≤ x ∧ x < 4294967296 := by decide
  unfold pageW
  split
  · rename_i p hp
    split
    · rename_i hr
      obtain ⟨h0, h1, h2, h3, h4, h5⟩ := h p (List.mem_of_getElem? hp)
      obtain ⟨hs, _⟩ := (Pg.right_iff p).1 hr
      rw [Pg.words_right hr]
      intro x hx
      simp only [List.mem_cons, List.not_mem_nil, or_false] at hx
      rcases hx with rfl | rfl | rfl | rfl | rfl | rfl | rfl
      · have := h0.1
        unfold Pg.first
        split <;> omega
      · exact h1
      · exact h2
      · exact h3
      · exact h4
      · exact h5
      · omega
    · exact ho
  · exact ho
theorem u32_blockW {ps : List Pg} (h : ∀ p ∈ ps, p.ok) {i : Nat} (hi : i ≤ 2147483648) : ∀ x ∈ blockW i ps, 0 ≤ x ∧ x < 4294967296 := by
  have ho : ∀ x ∈ ones4, 0 ≤ x ∧ x < 4294967296 := by decide
  unfold blockW pagesW header
  rw [if_neg (by omega)]
  intro x hx
  simp only [List.mem_append, List.mem_flatMap, List.mem_cons, List.not_mem_nil, or_false] at hx
  rcases hx with ((rfl | rfl | rfl | rfl) | ⟨k, _, hx⟩) | hx
  · omega
  · omega
  · omega
  · omega
  · exact u32_pgW h k x hx
  · exact ho x hx
theorem u32_builtW {l : List (List Pg)} (h : ∀ ps ∈ l, ∀ p ∈ ps, p.ok) {n : Nat} (hn : n ≤ 2147483648) : ∀ x ∈ builtW l n, 0 ≤ x ∧ x < 4294967296 := by
  intro x hx
  unfold builtW at hx
  obtain ⟨i, hi, hx⟩ := List.mem_flatMap.1 hx
  have hi := List.mem_range.1 hi
  refine u32_blockW (ps := l[i]?.getD []) ?_ (by omega) x hx
  cases hp : l[i]? with
  | none => simp
  | some ps => exact h ps (List.mem_of_getElem? hp)

def pA : Pg := ⟨3, 5, false, 0, 0, 0, 0⟩
def lA : List (List Pg) := [[pA], []]
def bA0 : Bk := ⟨1, 0, [1, 0, 0, 0, 0, 0, 0, 0], [pA, Pg.zero, Pg.zero, Pg.zero, Pg.zero, Pg.zero, Pg.zero, Pg.zero]⟩
def bA1 : Bk := ⟨1, 1, [0, 0, 0, 0, 0, 0, 0, 0], [Pg.zero, Pg.zero, Pg.zero, Pg.zero, Pg.zero, Pg.zero, Pg.zero, Pg.zero]⟩
theorem pA_ok : pA.ok := by simp [pA, Pg.ok, u32]
theorem lA_ok : ∀ ps ∈ lA, ∀ p ∈ ps, p.ok := by simp [lA, pA_ok]
theorem found_A : foundBks (builtW lA 2) 2 = [bA0, bA1] := by decide +kernel
theorem zero_ok : Pg.zero.ok := by simp [Pg.zero, Pg.ok, u32]
theorem bA0_ok : bA0.ok := ⟨rfl, rfl, by decide, by decide, by decide, by simp [bA0, pA_ok, zero_ok]⟩
theorem bA1_ok : bA1.ok := ⟨rfl, rfl, by decide, by decide, by decide, by simp [bA1, zero_ok]⟩

/-- the built slice of slices -/
theorem pss_A {w : World} {g1 g2 : Nat} {t1 t2 : TypeId} (h1 : At w g1 pA.cells t1) (h2 : At w g2 [.slice (some ⟨g1, 0, none⟩) 1 1, .slice none 0 0] t2) : Pss w (.slice (some ⟨g2, 0, none⟩) 2 2) lA := by
  refine ⟨[.slice (some ⟨g1, 0, none⟩) 1 1, .slice none 0 0], rfl, .inr ⟨g2, 0, 2, rfl, Nat.le_refl 2, by decide, h2.lt, ?_⟩, ?_, lA_ok⟩
  · intro i x hx j u hu
    match i, hx with
    | 0, hx => simp only [List.map_cons, List.getElem?_cons_zero, Option.some.injEq] at hx; subst hx; match j, hu with | 0, hu => rw [h2.cell]; exact hu
    | 1, hx => simp only [List.map_cons, List.getElem?_cons_succ, List.getElem?_cons_zero, Option.some.injEq] at hx; subst hx; match j, hu with | 0, hu => rw [h2.cell]; exact hu
  · intro i x ps hx hp
    match i, hx, hp with
    | 0, hx, hp =>
      simp only [lA, List.getElem?_cons_zero, Option.some.injEq] at hx hp
      subst hx hp
      refine ⟨.inr (.inr ⟨g1, 0, 1, rfl, by decide, by decide, h1.lt, ?_⟩), by decide⟩
      intro i x hx j u hu
      match i, hx with
      | 0, hx => simp only [List.map_cons, List.getElem?_cons_zero, Option.some.injEq] at hx; subst hx; rw [h1.cell]; simpa using hu
    | 1, hx, hp =>
      simp only [lA, List.getElem?_cons_succ, List.getElem?_cons_zero, Option.some.injEq] at hx hp
      subst hx hp
      exact ⟨.inr (.inl ⟨rfl, rfl⟩), by decide⟩

end Go.Proofs.Ytihlbfbplmehiaa
