/- A slice of blocks (of 66 cells each), as a walk reads it. -/
import Derived.Test.YtihlbfbplmehiaaScanE
namespace Go.Proofs.Ytihlbfbplmehiaa
open Go.RowKit Go.Shelf

structure Bk where
  h : Int
  c : Int
  ks : List Int
  ps : List Pg
  deriving DecidableEq

def Bk.cells (b : Bk) : List Value := bkCells b.h b.c b.ks b.ps
structure Bk.ok (b : Bk) : Prop where
  ks : b.ks.length = 8
  ps : b.ps.length = 8
  h : -9223372036854775808 ≤ b.h ∧ b.h ≤ 9223372036854775807
  c : 0 ≤ b.c ∧ b.c < 4294967296
  kr : ∀ x ∈ b.ks, -9223372036854775808 ≤ x ∧ x ≤ 9223372036854775807
  pr : ∀ p ∈ b.ps, p.ok
def bksCells (bs : List Bk) : List Value := bs.flatMap Bk.cells
theorem Bk.cells_length {b : Bk} (h : b.ok) : b.cells.length = 66 := bk_length h.ks h.ps
theorem bksCells_length {bs : List Bk} (h : ∀ b ∈ bs, b.ok) : (bksCells bs).length = 66 * bs.length := by
  unfold bksCells
  induction bs with
  | nil => rfl
  | cons b bs ih =>
    rw [List.flatMap_cons, List.length_append, Bk.cells_length (h b List.mem_cons_self), ih (fun x hx => h x (List.mem_cons_of_mem _ hx)), List.length_cons]; omega
theorem bksCells_at {bs : List Bk} (h : ∀ b ∈ bs, b.ok) {i : Nat} {b : Bk} (hi : bs[i]? = some b) : ((bksCells bs).drop (66 * i)).take 66 = b.cells := by
  unfold bksCells
  induction bs generalizing i with
  | nil => cases hi
  | cons q bs ih =>
    have hq := Bk.cells_length (h q List.mem_cons_self)
    cases i with
    | zero =>
      simp only [List.getElem?_cons_zero, Option.some.injEq] at hi
      subst hi
      rw [List.flatMap_cons, Nat.mul_zero, List.drop_zero, ← hq, List.take_left]
    | succ i =>
      rw [List.flatMap_cons, show 66 * (i + 1) = q.cells.length + 66 * i by rw [hq]; omega, List.drop_length_add_append]
      exact ih (fun x hx => h x (List.mem_cons_of_mem _ hx)) (by simpa using hi)

/-- a slice of blocks -/
def Bl (w : World) (v : Value) (bs : List Bk) : Prop :=
  (v = .slice none 0 0 ∧ bs = []) ∨ ∃ b off cap, v = .slice (some ⟨b, off, none⟩) bs.length cap ∧ bs.length ≤ cap ∧ cap ≤ 9223372036854775807 ∧ b < w.heap.size ∧ (∀ x ∈ bs, x.ok) ∧
    ∀ j, j < 66 * bs.length → w.cell? ⟨b, off + j, none⟩ = (bksCells bs)[j]?
theorem Bl.nil (w : World) : Bl w (.slice none 0 0) [] := .inl ⟨rfl, rfl⟩
theorem Bl.below {w w' : World} {v : Value} {bs : List Bk} (h : Bl w v bs) (hb : Below w.heap.size w w') : Bl w' v bs := by
  rcases h with h | ⟨b, off, cap, h1, h2, h3, h4, h5, h6⟩
  · exact .inl h
  · exact .inr ⟨b, off, cap, h1, h2, h3, Nat.lt_of_lt_of_le h4 hb.size, h5, fun j hj => by rw [hb.cell (p := ⟨b, off + j, none⟩) h4]; exact h6 j hj⟩
theorem Bl.shape {w : World} {v : Value} {bs : List Bk} (h : Bl w v bs) : ∃ a c, v = .slice a bs.length c := by
  rcases h with ⟨rfl, rfl⟩ | ⟨b, off, cap, h1, _⟩
  · exact ⟨none, 0, rfl⟩
  · exact ⟨_, _, h1⟩
theorem Bl.of_own {w : World} {base : Nat} {e : TypeId} {v : Value} {bs : List Bk} (h : w.ownsRow base e 66 v bs.length (bksCells bs)) (hok : ∀ b ∈ bs, b.ok) : Bl w v bs := by
  rcases h.2 with ⟨rfl, h0⟩ | ⟨g, cap, cur, rfl, hb, hg, hn, hm, _, ht⟩
  · exact .inl ⟨rfl, List.length_eq_zero_iff.1 h0⟩
  · refine .inr ⟨g, 0, cap, rfl, hn, by simp only [maxLen] at hm; omega, (Array.getElem?_eq_some_iff.1 hg).1, hok, fun j hj => ?_⟩
    rw [Nat.zero_add]
    exact World.ownsRow.cellAt h j (by omega)
/-- where the i-th block lies -/
theorem Bl.block {w : World} {v : Value} {bs : List Bk} (h : Bl w v bs) {i : Nat} {x : Bk} (hi : bs[i]? = some x) : x.ok ∧ ∃ b off cap, v = .slice (some ⟨b, off, none⟩) bs.length cap ∧ b < w.heap.size ∧ ∀ w', Below w.heap.size w w' → w'.rangeAt b (off + i * 66) x.cells := by
  have hil : i < bs.length := (List.getElem?_eq_some_iff.1 hi).1
  rcases h with ⟨rfl, rfl⟩ | ⟨b, off, cap, h1, h2, h3, h4, h5, h6⟩
  · cases hi
  · have hx : x.ok := h5 x (List.mem_of_getElem? hi)
    refine ⟨hx, b, off, cap, h1, h4, fun w' hb j u hu => ?_⟩
    rw [Nat.mul_comm i 66]
    rw [hb.cell (p := ⟨b, off + 66 * i + j, none⟩) h4]
    rw [← bksCells_at h5 hi, List.getElem?_take] at hu
    split at hu
    · rw [List.getElem?_drop] at hu
      rw [Nat.add_assoc, h6 (66 * i + j) (by omega)]; exact hu
    · cases hu
end Go.Proofs.Ytihlbfbplmehiaa
