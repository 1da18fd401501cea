/- A bus of a memory that was made of words. -/
import Derived.Test.YtfgipnohomdcoaaBusF
namespace Go.Proofs.Ytfgipnohomdcoaa
open Go.RowKit

theorem BW.any {w : World} {gb gr gw gw' : Nat} {base : Int} {sv : Value} (h : BW w gb gr gw base [] sv) (h1 : gr ≠ gw') (h2 : gb ≠ gw') : BW w gb gr gw' base [] sv := by
  obtain ⟨a, cap, hA, _⟩ := h.ram.ex
  exact ⟨h.bus, ⟨⟨a, cap, hA, .inl rfl⟩, h.ram.b, h.ram.r, h.ram.l, h1⟩, h2⟩
/-- words of the call's own: a slice -/
theorem own_slice {w : World} {B n : Nat} {e : TypeId} {v : Value} {xs : List Value} (h : w.ownsRow B e 1 v n xs) : ∃ a cap, v = .slice a n cap := by
  rcases h.2 with ⟨rfl, rfl⟩ | ⟨g, cap, cur, rfl, _⟩
  · exact ⟨none, 0, rfl⟩
  · exact ⟨_, _, rfl⟩
theorem bw_made {B : Nat} {w5 w6 w7 : World} {base : Int} {ws : List Int} {a : Option Addr} {cap : Nat} (ho : w5.ownsRow B 22 1 (.slice a ws.length cap) ws.length (ws.map uv)) (hn6 : New w5 w6 (.cells [.int .u32 base, .slice a ws.length cap].toArray 29))
    (hn7 : New w6 w7 (.cells [.pointer (some ⟨w5.heap.size, 0, none⟩), .slice none 0 0].toArray 57)) (hb : 0 ≤ base ∧ base < 4294967296) (hr : ∀ x ∈ ws, 0 ≤ x ∧ x < 4294967296) (hl : ws.length ≤ 1000) (hB : B ≤ w5.heap.size) :
    ∃ gw, BW w7 w6.heap.size w5.heap.size gw base ws (.slice none 0 0) ∧ B ≤ gw := by
  have s6 := hn6.size
  rcases Nat.eq_zero_or_pos ws.length with h0 | h0
  · have hws : ws = [] := List.length_eq_zero_iff.1 h0
    exact ⟨w5.heap.size + 5, ⟨hn7.to, ⟨⟨a, cap, hn7.at hn6.to, .inl hws⟩, hb, hr, hl, by omega⟩, by omega⟩, by omega⟩
  · obtain ⟨g, cap', c, he, hg, hA, hc1, hc2, hc3, hc4⟩ := own_at ho h0
    simp only [Value.slice.injEq] at he
    obtain ⟨rfl, -, rfl⟩ := he
    have hlt := hA.lt
    exact ⟨g, ⟨hn7.to, ⟨⟨_, cap, hn7.at hn6.to, .inr ⟨c, rfl, hn7.at (hn6.at hA), hc4, hc3⟩⟩, hb, hr, hl, by omega⟩, by omega⟩, hg⟩
end Go.Proofs.Ytfgipnohomdcoaa
