/- The answers that the statements of package page ask first. -/
import Derived.Test.YtihlbfbplmehiaaPageE
namespace Go.Proofs.Ytihlbfbplmehiaa
open Go.RowKit
set_option maxHeartbeats 1000000

def exPg : Pg := ⟨5, 9, false, 1, 2, 3, 4⟩
theorem exPg_ok : exPg.ok := by simp [exPg, Pg.ok, u32]
theorem exPg_words : exPg.words = [5, 9, 1, 2, 3, 4, 1526644958] := by decide
theorem exPg_rd : rd [5, 9, 1, 2, 3, 4, 1526644958] = (exPg, 1) := by decide
theorem ex_header : header 7 = [2970353665, 7, 4294967288, 1526644958] := by decide
theorem ex_count : count [2970353665, 7, 4294967288, 1526644958] = (7, 1) := by decide
theorem ex_at : atP 1 2 = 82 := by decide

theorem Ow.len7 {base : Nat} {e : TypeId} {w : World} {v : Value} {l : List Int} (h : Ow base e w v l) (hl : l ≠ []) : ∃ g cap, v = .slice (some ⟨g, 0, none⟩) l.length cap ∧ base ≤ g ∧ g < w.heap.size ∧ l.length ≤ cap ∧ ∀ w', Below w.heap.size w w' → ∀ i x, l[i]? = some x → w'.cell? ⟨g, i, none⟩ = some (.int .u32 x) := by
  have hs := h.sl
  obtain ⟨⟨_, h1⟩, _⟩ := h
  rcases h1 with ⟨rfl, h1⟩ | ⟨g, cap, cur, rfl, hg, hh, hc, _⟩
  · exact absurd (List.length_eq_zero_iff.1 h1) hl
  · obtain ⟨b, off, cap', he, _, _, hb, hcell⟩ := hs.cells hl
    simp only [Value.slice.injEq, Option.some.injEq, Addr.mk.injEq] at he
    obtain ⟨⟨rfl, rfl, _⟩, _, rfl⟩ := he
    exact ⟨g, cap, rfl, hg, hb, hc, fun w' hw i x hx => by have := hcell w' hw i x hx; rwa [Nat.zero_add] at this⟩

end Go.Proofs.Ytihlbfbplmehiaa
