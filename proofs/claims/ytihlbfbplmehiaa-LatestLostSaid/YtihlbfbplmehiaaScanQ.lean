/- What is found in words that were built; the four questions to a block; the statements' own first question. -/
import Derived.Test.YtihlbfbplmehiaaScanP
namespace Go.Proofs.Ytihlbfbplmehiaa
open Go.RowKit Go.Shelf
set_option maxHeartbeats 4000000

def kvOf (b : Bk) (x : Fin 8) : Int := b.ks[x.1]?.getD 0
theorem kvOf_at {b : Bk} (h : b.ok) (x : Fin 8) : b.ks[x.1]? = some (kvOf b x) := by
  unfold kvOf
  rw [List.getElem?_eq_getElem (by rw [h.ks]; exact x.2)]; rfl
theorem ksf_up8 (f : Fin 8 → Int) : ksf f (up8 8) = [f 0, f 1, f 2, f 3, f 4, f 5, f 6, f 7] := rfl
theorem psf_up8 (f : Fin 8 → Pg) : psf f (up8 8) = [f 0, f 1, f 2, f 3, f 4, f 5, f 6, f 7] := rfl
/-- what is found in the words of a block -/
def fBk (l : List Int) : Bk := ⟨(count (l.take 4)).2, (count (l.take 4)).1, ksf (fKind l) (up8 8), psf (fPage l) (up8 8)⟩
theorem fBk_cells (l : List Int) : fBlock l = (fBk l).cells := rfl
def foundBks (l : List Int) (n : Nat) : List Bk := (List.range n).map fun i => fBk (blk l i)
theorem foundCells_eq (l : List Int) (n : Nat) : foundCells l n = bksCells (foundBks l n) := by
  unfold foundCells foundBks bksCells
  rw [List.flatMap_map]; rfl
theorem foundBks_length (l : List Int) (n : Nat) : (foundBks l n).length = n := by unfold foundBks; simp
theorem foundBks_at {l : List Int} {n i : Nat} (h : i < n) : (foundBks l n)[i]? = some (fBk (blk l i)) := by unfold foundBks; simp [h]

theorem kind_range (l m : List Int) (n : Int) : 0 ≤ kind l m n ∧ kind l m n ≤ 2 := by unfold kind; split <;> (try split) <;> (try split) <;> omega
theorem count_ok (l : List Int) (h : ∀ x ∈ l, 0 ≤ x ∧ x < 4294967296) : (0 ≤ (count l).1 ∧ (count l).1 < 4294967296) ∧ 0 ≤ (count l).2 ∧ (count l).2 ≤ 2 := by
  unfold count
  split
  · exact ⟨by simp, by simp⟩
  · split
    · exact ⟨by simp, kind_range _ _ _⟩
    · rename_i hl _
      refine ⟨?_, by simp⟩
      have hl : l.length = 4 := by simpa using hl
      rw [List.getElem?_eq_getElem (by omega)]
      exact h _ (List.getElem_mem _)
theorem rd_kind (l : List Int) : 0 ≤ (rd l).2 ∧ (rd l).2 ≤ 2 := by
  unfold rd
  split
  · simp
  · split
    · exact kind_range _ _ _
    · simp
theorem pgWords_range {l : List Int} (h : ∀ x ∈ l, 0 ≤ x ∧ x < 4294967296) (i : Nat) : ∀ x ∈ pgWords l i, 0 ≤ x ∧ x < 4294967296 := fun x hx => h x (List.mem_of_mem_drop (List.mem_of_mem_take hx))
theorem fKind_range (l : List Int) (x : Fin 8) : -9223372036854775808 ≤ fKind l x ∧ fKind l x ≤ 9223372036854775807 := by
  unfold fKind
  split
  · have := rd_kind (pgWords l x.1); omega
  · omega
theorem fPage_ok {l : List Int} (h : ∀ x ∈ l, 0 ≤ x ∧ x < 4294967296) (x : Fin 8) : (fPage l x).ok := by
  unfold fPage
  split
  · exact rd_ok _ (pgWords_range h _)
  · simp [Pg.zero, Pg.ok, u32]
theorem fBk_ok {l : List Int} (h : ∀ x ∈ l, 0 ≤ x ∧ x < 4294967296) : (fBk l).ok := by
  have hc := count_ok (l.take 4) (fun x hx => h x (List.mem_of_mem_take hx))
  refine ⟨rfl, rfl, ?_, hc.1, ?_, ?_⟩
  · show _ ≤ (count (l.take 4)).2 ∧ (count (l.take 4)).2 ≤ _
    omega
  · intro x hx
    simp only [fBk, ksf_up8, List.mem_cons, List.not_mem_nil, or_false] at hx
    rcases hx with rfl | rfl | rfl | rfl | rfl | rfl | rfl | rfl <;> exact fKind_range _ _
  · intro x hx
    simp only [fBk, psf_up8, List.mem_cons, List.not_mem_nil, or_false] at hx
    rcases hx with rfl | rfl | rfl | rfl | rfl | rfl | rfl | rfl <;> exact fPage_ok h _
theorem foundBks_ok {l : List Int} (h : ∀ x ∈ l, 0 ≤ x ∧ x < 4294967296) (n : Nat) : ∀ b ∈ foundBks l n, b.ok := by
  intro b hb
  unfold foundBks at hb
  obtain ⟨i, _, rfl⟩ := List.mem_map.1 hb
  exact fBk_ok fun x hx => h x (List.mem_of_mem_drop (List.mem_of_mem_take hx))

/-! ### words that were built -/
theorem pagesW_at (ps : List Pg) : ∀ (n k : Nat), k < n → ((pagesW ps n).drop (7 * k)).take 7 = pageW ps k
  | 0, k, h => by omega
  | n + 1, k, h => by
    rw [pagesW_succ]
    have hl := pagesW_len ps n
    by_cases e : k = n
    · subst e
      rw [← hl, List.drop_left, List.take_of_length_le (by rw [pageW_len]; omega)]
    · rw [List.drop_append_of_le_length (by omega), List.take_append_of_le_length (by rw [List.length_drop]; omega)]
      exact pagesW_at ps n k (by omega)
theorem blockW_page {i : Nat} (hi : i ≤ 2147483648) (ps : List Pg) {k : Nat} (hk : k < 8) : pgWords (blockW i ps) k = pageW ps k := by
  unfold pgWords blockW
  have hl := pagesW_len ps 8
  rw [List.append_assoc, show 4 + 7 * k = (header i).length + 7 * k by rw [header_len hi], List.drop_length_add_append, List.drop_append_of_le_length (by omega), List.take_append_of_le_length (by rw [List.length_drop]; omega)]
  exact pagesW_at ps 8 k hk
theorem blockW_head {i : Nat} (hi : i ≤ 2147483648) (ps : List Pg) : (blockW i ps).take 4 = header i := by
  unfold blockW
  rw [List.append_assoc, ← header_len hi, List.take_left]
theorem builtW_blk (l : List (List Pg)) : ∀ (n i : Nat), n ≤ 2147483648 → i < n → blk (builtW l n) i = blockW i (l[i]?.getD [])
  | 0, i, _, h => by omega
  | n + 1, i, hn, h => by
    unfold blk
    rw [builtW_succ]
    have hl := builtW_len l n (by omega)
    by_cases e : i = n
    · subst e
      rw [← hl, List.drop_left, List.take_of_length_le (by rw [blockW_len (by omega)]; omega)]
    · rw [List.drop_append_of_le_length (by omega), List.take_append_of_le_length (by rw [List.length_drop]; omega)]
      exact builtW_blk l n i (by omega) (by omega)
theorem rd_ones : rd ones7 = (Pg.zero, 0) := by decide +kernel
/-- is there a page that may be -/
def isP (ps : List Pg) (k : Nat) : Bool := match ps[k]? with | some p => p.right | none => false
theorem rd_pageW {ps : List Pg} (h : ∀ p ∈ ps, p.ok) (k : Nat) : rd (pageW ps k) = if isP ps k then (ps[k]?.getD Pg.zero, 1) else (Pg.zero, 0) := by
  unfold pageW isP
  cases hk : ps[k]? with
  | none => simp [rd_ones]
  | some p =>
    cases hr : p.right
    · simp [hr, rd_ones]
    · simp [hr, rd_words (h p (List.mem_of_getElem? hk)) hr]
theorem fKind_built {ps : List Pg} (h : ∀ p ∈ ps, p.ok) {i : Nat} (hi : i ≤ 2147483648) (x : Fin 8) : fKind (blockW i ps) x = if isP ps x.1 then 1 else 0 := by
  unfold fKind
  rw [blockW_head hi, count_header (by omega), if_pos rfl, blockW_page hi ps x.2, rd_pageW h]
  split <;> rfl
theorem fPage_built {ps : List Pg} (h : ∀ p ∈ ps, p.ok) {i : Nat} (hi : i ≤ 2147483648) (x : Fin 8) : fPage (blockW i ps) x = if isP ps x.1 then ps[x.1]?.getD Pg.zero else Pg.zero := by
  unfold fPage
  rw [blockW_head hi, count_header (by omega), if_pos rfl, blockW_page hi ps x.2, rd_pageW h]
  split <;> rfl
end Go.Proofs.Ytihlbfbplmehiaa
