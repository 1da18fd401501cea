/- Words that every seat of mine shares: slices that a call owns, a slice literal of one struct. -/
import Derived.Test.YthndnammnnallaaMem
import Derived.Great.BuildSlice
import Derived.Laws.AppendOwn
namespace Go.Proofs.Ythndnammnnallaa
open Go.RowKit

section
variable {P : Program} {w : World}
theorem run_buildOne {t e : TypeId} {cs : List Value} (hu : P.underlying t = some (.slice e)) (m : Nat) (hm : cs.length = m) (hi : (P.info? e).map (·.size) = some m) (hz : ((P.info? e).bind (·.zero)).isSome = true) (hpos : 0 < m) (hsmall : m ≤ 1000) :
    (Instr.buildSlice t 1 #[(0, .agg cs.toArray)]).run P w = .ok (.slice (some ⟨w.heap.size, 0, none⟩) 1 1) (w.alloc (.cells cs.toArray e)) := by
  cases hie : P.info? e with
  | none => rw [hie] at hi; cases hi
  | some ie =>
    simp only [hie, Option.map_some, Option.some.injEq, Option.bind_some] at hi hz
    obtain ⟨z, hzz⟩ := Option.isSome_iff_exists.1 hz
    refine run_buildSlice w t e 1 _ _ ie z hu hie hzz (by rw [hi]; omega) (by rw [hi]; omega) ?_
    have h := Great.fill_whole (s := ie.size) (by omega) [Value.agg cs.toArray] ((Array.range (1 * ie.size)).map (z.cells[· % z.cells.size]!)) (by intro v hv; simp only [List.mem_cons, List.not_mem_nil, or_false] at hv; subst hv; simp [Value.cells, hm, hi]) (by simp)
    simpa [Value.cells] using h
end
theorem own_ne {W : World} {base g n size : Nat} {e t : TypeId} {v : Value} {xs c : List Value} (h : W.ownsRow base e size v n xs) (ha : At W g c t) (hte : t ≠ e) : v.ownBlock ≠ some g := by
  intro hv
  rcases h.2 with ⟨rfl, _⟩ | ⟨g', cap, cur, rfl, _, hg, _⟩
  · cases hv
  · simp only [Value.ownBlock, Option.some.injEq] at hv
    subst hv
    have := ha.heap
    rw [hg] at this
    cases this
    exact hte rfl
theorem own_below {W W' : World} {base n size : Nat} {e : TypeId} {v : Value} {xs : List Value} (h : W.ownsRow base e size v n xs) (hb : Below W.heap.size W W') : W'.ownsRow base e size v n xs := by
  refine ⟨h.1, ?_⟩
  rcases h.2 with ⟨rfl, h0⟩ | ⟨g', cap, cur, rfl, hb', hg', h3⟩
  · exact .inl ⟨rfl, h0⟩
  · exact .inr ⟨g', cap, cur, rfl, hb', by rw [hb.block g' (Array.getElem?_eq_some_iff.1 hg').1]; exact hg', h3⟩
theorem own_upd {W W' : World} {base n size g : Nat} {e : TypeId} {v : Value} {xs : List Value} {o : Obj} (h : W.ownsRow base e size v n xs) (hu : Upd W W' g o) (hne : v.ownBlock ≠ some g) : W'.ownsRow base e size v n xs := by
  refine ⟨h.1, ?_⟩
  rcases h.2 with ⟨rfl, h0⟩ | ⟨g', cap, cur, rfl, hb', hg', h3⟩
  · exact .inl ⟨rfl, h0⟩
  · exact .inr ⟨g', cap, cur, rfl, hb', by rw [hu.other g' (fun e => hne (by rw [e]; rfl))]; exact hg', h3⟩
theorem add0 (B j : Nat) : (⟨B, 0, none⟩ : Addr).add j = ⟨B, j, none⟩ := by by_cases h : j = 0 <;> simp [Addr.add, h]
theorem own_block {W : World} {base n size : Nat} {e : TypeId} {v : Value} {xs : List Value} (h : W.ownsRow base e size v n xs) {r : Nat} (hr : v.ownBlock = some r) : base ≤ r ∧ ∃ cur, W.heap[r]? = some (.cells cur e (0, 0)) := by
  rcases h.2 with ⟨rfl, _⟩ | ⟨g', cap, cur, rfl, hb, hg, _⟩
  · cases hr
  · simp only [Value.ownBlock, Option.some.injEq] at hr
    subst hr
    exact ⟨hb, cur, hg⟩
theorem own_cells1 {W : World} {base n size : Nat} {e : TypeId} {v : Value} {xs : List Value} (h : W.ownsRow base e size v n xs) : v.cells = #[v] ∧ v.oneCell' = true := by
  rcases h.2 with ⟨rfl, _⟩ | ⟨g', cap, cur, rfl, hb, hg, _⟩ <;> exact ⟨rfl, rfl⟩
theorem at_grown {V V2 : World} {v : Value} {g : Nat} {c : List Value} {t : TypeId} (ha : At V g c t) (hg : V.grownBy V2 v.ownBlock) (hne : v.ownBlock ≠ some g) : At V2 g c t := by
  have hlt := ha.lt
  unfold At at *
  rw [hg.block g hlt (fun e => hne e.symm)]; exact ha
end Go.Proofs.Ythndnammnnallaa
