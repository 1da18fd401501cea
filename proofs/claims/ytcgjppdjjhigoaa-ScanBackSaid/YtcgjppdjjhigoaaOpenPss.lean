/- An argument that is a slice of slices of pages. -/
import Derived.Test.YtcgjppdjjhigoaaScanS
namespace Go.Proofs.Ytcgjppdjjhigoaa
open Go.ChangeShapes Go.WideShapes Go.ChangeAt Go.RowKit

theorem cell_spot {w : World} {a : Addr} {v : Value} (h : w.cell? a = some v) : a.spot = none ∧ a.block < w.heap.size := by
  unfold World.cell? at h
  split at h
  · rename_i hh
    split at h
    · cases h
    · rename_i hs
      exact ⟨by cases hq : a.spot with | none => rfl | some x => rw [hq] at hs; simp at hs, (Array.getElem?_eq_some_iff.1 hh).1⟩
  · cases h

theorem inner_open {H : Type} {enc : TypeId × Value → H} {P : Program} {W : World} {t e : TypeId} {v : Value} {fuel : Nat} {x : DataW H × List MemPlace} {D s : Nat} {ks : List (Option IntKind)} (hu : P.underlying t = some (.slice e)) (hks : flatAt P D e = some ks) (hsz : P.cellsOf e = s) (hs : 0 < s)
    (h : DataW.trod enc P W 0 (fun _ => true) true fuel t [v] = some x) : ∃ l : List (List Value), l.length ≤ 9223372036854775807 ∧ Ei s W v l ∧ ∀ x ∈ l, Fit ks x := by
  rcases Deep.open_slice hu h with ⟨hcs, _⟩ | ⟨a, len, cap, m, n, Dt, Pl, hcs, hb, hl, hc, hm, _, hel⟩
  · simp only [List.cons.injEq, and_true] at hcs
    subst hcs
    exact ⟨[], by simp, .inl ⟨rfl, _, _, rfl⟩, by simp⟩
  · simp only [List.cons.injEq, and_true] at hcs
    subst hcs
    simp only [if_true] at hm
    subst hm
    have hm63 : m ≤ 9223372036854775807 := by simp only [maxLen] at hc; omega
    by_cases h0 : len = 0
    · subst h0
      exact ⟨[], by simp, .inl ⟨rfl, _, _, rfl⟩, by simp⟩
    · obtain ⟨c0, hw0, ht0⟩ := hel 0 (by omega)
      rw [hsz] at hw0
      obtain ⟨_, hl0, hat0⟩ := World.cells?_some hw0
      have hsp : a.spot = none ∧ a.block < W.heap.size := by
        have := hat0 0 hs
        rw [Nat.zero_mul] at this
        obtain ⟨u, hu0⟩ : ∃ u, c0[0]? = some u := ⟨_, List.getElem?_eq_getElem (by omega)⟩
        rw [hu0] at this
        exact cell_spot (a := a) this
      obtain ⟨h1, h2⟩ := hsp
      have hall : ∀ i : Fin len, ∃ cs', Fit ks cs' ∧ W.rangeAt a.block (a.off + i.1 * s) cs' := by
        intro i
        obtain ⟨cs', hw, ht⟩ := hel i.1 (by have := i.2; omega)
        rw [hsz] at hw
        obtain ⟨_, hcl, hat⟩ := World.cells?_some hw
        refine ⟨cs', fit_of_trod D e ks cs' n _ hks ht, fun j u hj => ?_⟩
        have hjl := (List.getElem?_eq_some_iff.1 hj).1
        have := hat j (by omega)
        rw [Addr.add_none h1, Addr.add_none (by rfl)] at this
        rw [this]; exact hj
      have hch := fun i => Classical.choose_spec (hall i)
      obtain ⟨l, hll⟩ : ∃ l, l = (List.finRange len).map fun i => Classical.choose (hall i) := ⟨_, rfl⟩
      have hlen : l.length = len := by rw [hll]; simp
      have hget : ∀ (i : Nat) x, l[i]? = some x → ∃ h : i < len, x = Classical.choose (hall ⟨i, h⟩) := by
        intro i x hx
        have hi : i < len := by rw [← hlen]; exact (List.getElem?_eq_some_iff.1 hx).1
        rw [hll, List.getElem?_map, List.getElem?_eq_getElem (by simpa using hi)] at hx
        simp only [List.getElem_finRange, Option.map_some, Option.some.injEq] at hx
        exact ⟨hi, hx.symm⟩
      refine ⟨l, by omega, .inr (.inr ⟨a.block, a.off, m, ?_, by omega, hm63, h2, ?_⟩), ?_⟩
      · rw [hlen]
        congr 1
        obtain ⟨b, off, spot⟩ := a
        dsimp only at h1
        subst h1
        rfl
      · intro i x hx
        obtain ⟨hi, rfl⟩ := hget i x hx
        exact (hch ⟨i, hi⟩).2
      · intro x hx
        obtain ⟨i, hi⟩ := List.getElem?_of_mem hx
        obtain ⟨hi', rfl⟩ := hget i x hi
        exact (hch ⟨i, hi'⟩).1

theorem fit_pgs' : ∀ (l : List (List Value)), (∀ x ∈ l, Fit pgKinds x) → ∃ ps : List Pg, l = ps.map Pg.cells ∧ ∀ p ∈ ps, p.ok
  | [], _ => ⟨[], rfl, by simp⟩
  | x :: l, h => by
    obtain ⟨p, rfl, hp⟩ := fit_page (h x List.mem_cons_self)
    obtain ⟨ps, rfl, hps⟩ := fit_pgs' l fun y hy => h y (List.mem_cons_of_mem _ hy)
    exact ⟨p :: ps, rfl, fun y hy => (List.mem_cons.1 hy).elim (fun e => e ▸ hp) (hps y)⟩

theorem open_pss {H : Type} {enc : TypeId × Value → H} {P : Program} {W : World} {r : Reach} {base : Nat} {t e1 e : TypeId} {v : Value} {d : DataW H} {p : List MemPlace} {D : Nat} (hu : P.underlying t = some (.slice e1)) (hu1 : P.underlying e1 = some (.slice e)) (hks : flatAt P D e = some pgKinds) (hsz : P.cellsOf e = 7) (hs1 : P.cellsOf e1 = 1)
    (ho : Value.okWide P W r base t v) (h : DataW.Trod enc P W 0 (fun _ => true) true t v d p) :
    ∃ a cap, ∃ l : List (List Pg), v = .slice a l.length cap ∧ l.length ≤ 9223372036854775807 ∧ Pss W v l := by
  obtain ⟨fuel, hf⟩ := h
  obtain ⟨a0, len, cap, rfl⟩ := okWide_slice hu ho
  rcases Deep.open_slice hu hf with ⟨hcs, _⟩ | ⟨a, len', cap', m, n, Dt, Pl, hcs, hb, hl, hc, hm, _, hel⟩
  · simp only [Value.cells, List.cons.injEq, Value.slice.injEq, and_true] at hcs
    obtain ⟨rfl, rfl, rfl⟩ := hcs
    exact ⟨none, 0, [], rfl, by simp, [], rfl, .inl ⟨rfl, rfl⟩, by simp, by simp⟩
  · simp only [Value.cells, List.cons.injEq, Value.slice.injEq, and_true] at hcs
    obtain ⟨rfl, rfl, rfl⟩ := hcs
    simp only [if_true] at hm
    subst hm
    obtain ⟨h1, h2⟩ := slice_at hu ho
    have hm63 : m ≤ 9223372036854775807 := by simp only [maxLen] at hc; omega
    have hall : ∀ i : Fin len, ∃ (y : Value) (ps : List Pg), W.cell? ⟨a.block, a.off + i.1, none⟩ = some y ∧ Ei 7 W y (ps.map Pg.cells) ∧ ps.length ≤ 9223372036854775807 ∧ ∀ p ∈ ps, p.ok := by
      intro i
      obtain ⟨cs', hw, ht⟩ := hel i.1 (by have := i.2; omega)
      rw [hs1] at hw
      obtain ⟨_, hcl, hat⟩ := World.cells?_some hw
      match cs', hcl with
      | [y], _ =>
        obtain ⟨l, hlen, hei, hfit⟩ := inner_open hu1 hks hsz (by decide) ht
        obtain ⟨ps, rfl, hps⟩ := fit_pgs' l hfit
        refine ⟨y, ps, ?_, hei, by simpa using hlen, hps⟩
        have := hat 0 (by decide)
        rw [Nat.mul_one, Addr.add_none h1, Addr.add_none (by rfl)] at this
        simpa using this
    obtain ⟨f, hf⟩ := Classical.axiomOfChoice hall
    obtain ⟨g, hg⟩ := Classical.axiomOfChoice hf
    have gv : ∀ {α : Type} (F : Fin len → α) (i : Nat) x, ((List.finRange len).map F)[i]? = some x → ∃ h : i < len, x = F ⟨i, h⟩ := by
      intro α F i x hx
      have hi : i < len := by have := (List.getElem?_eq_some_iff.1 hx).1; simpa using this
      rw [List.getElem?_map, List.getElem?_eq_getElem (by simpa using hi)] at hx
      simp only [List.getElem_finRange, Option.map_some, Option.some.injEq] at hx
      exact ⟨hi, hx.symm⟩
    refine ⟨some a, m, (List.finRange len).map g, by simp, by simp; omega, (List.finRange len).map f, by simp, .inr ⟨a.block, a.off, m, ?_, by simp; omega, hm63, h2, ?_⟩, ?_, ?_⟩
    · simp only [List.length_map, List.length_finRange]
      congr 1
      obtain ⟨b, off, spot⟩ := a
      dsimp only at h1
      subst h1
      rfl
    · intro i x hx j u hj
      rw [List.getElem?_map, Option.map_eq_some_iff] at hx
      obtain ⟨y, hy, rfl⟩ := hx
      obtain ⟨hi, rfl⟩ := gv f i y hy
      match j, hj with
      | 0, hj =>
        simp only [List.getElem?_cons_zero, Option.some.injEq] at hj
        subst hj
        simpa using (hg ⟨i, hi⟩).1
    · intro i x ps hx hp
      obtain ⟨hi, rfl⟩ := gv f i x hx
      obtain ⟨_, rfl⟩ := gv g i ps hp
      exact ⟨(hg ⟨i, hi⟩).2.1, (hg ⟨i, hi⟩).2.2.1⟩
    · intro ps hps
      obtain ⟨i, hi⟩ := List.getElem?_of_mem hps
      obtain ⟨hi', rfl⟩ := gv g i ps hi
      exact (hg ⟨i, hi'⟩).2.2.2
end Go.Proofs.Ytcgjppdjjhigoaa
