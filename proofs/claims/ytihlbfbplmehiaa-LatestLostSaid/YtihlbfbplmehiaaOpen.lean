/- An argument that is a slice of flat elements: structs and arrays of integers and bools. -/
import Derived.Test.YtihlbfbplmehiaaFlat
import Derived.Test.YtihlbfbplmehiaaMemB
import Derived.Deep.Slices
import Derived.ChangeArms
namespace Go.Proofs.Ytihlbfbplmehiaa
open Go.ChangeShapes Go.WideShapes Go.ChangeAt Go.RowKit

theorem fit_flat_fs {g : TypeId → Option (List (Option IntKind))} {c : TypeId → Nat} : ∀ (fs : List Field) (off : Nat) (ks : List (Option IntKind)) (cs : List Value), flatFs g c off fs = some ks →
    (∀ f ∈ fs, ∀ ks', g f.type = some ks' → Fit ks' ((cs.drop f.offset).take (c f.type))) → cs.length = off + ks.length → Fit ks (cs.drop off)
  | [], off, ks, cs, h, _, hl => by
    simp only [flatFs, Option.some.injEq] at h
    subst h
    rw [List.drop_eq_nil_of_le (by simp at hl; omega)]
    trivial
  | f :: fs, off, ks, cs, h, hf, hl => by
    unfold flatFs at h
    split at h
    · rename_i k1 hk1
      split at h
      · rename_i hc
        obtain ⟨h1, h2, _⟩ := hc
        simp only [Option.map_eq_some_iff] at h
        obtain ⟨k2, hk2, rfl⟩ := h
        rw [List.length_append] at hl
        have f1 := hf f List.mem_cons_self k1 hk1
        have f2 := fit_flat_fs fs (off + c f.type) k2 cs hk2 (fun f' hf' => hf f' (List.mem_cons_of_mem _ hf')) (by omega)
        rw [h1] at f1
        have e : cs.drop off = (cs.drop off).take (c f.type) ++ cs.drop (off + c f.type) := by rw [← List.drop_drop, List.take_append_drop]
        rw [e]
        exact fit_join f1 f2
      · cases h
    · cases h

theorem fit_reps {ks : List (Option IntKind)} {m : Nat} : ∀ (n : Nat) (cs : List Value), cs.length = n * m → (∀ i < n, Fit ks ((cs.drop (i * m)).take m)) → Fit (List.replicate n ks).flatten cs
  | 0, cs, hl, _ => by
    have : cs = [] := List.length_eq_zero_iff.1 (by simpa using hl)
    subst this; trivial
  | n + 1, cs, hl, h => by
    rw [List.replicate_succ, List.flatten_cons]
    have h0 := h 0 (by omega)
    rw [Nat.zero_mul, List.drop_zero] at h0
    have h1 := fit_reps (ks := ks) (m := m) n (cs.drop m) (by rw [List.length_drop, hl, Nat.succ_mul]; omega) (fun i hi => by
      rw [List.drop_drop, show m + i * m = (i + 1) * m by rw [Nat.succ_mul, Nat.add_comm]]
      exact h (i + 1) (by omega))
    rw [← List.take_append_drop m cs]
    exact fit_join h0 h1

theorem fit_of_trod {H : Type} {enc : TypeId × Value → H} {P : Program} {w : World} {base : Nat} {spare : Nat → Bool} {held : Bool} :
    ∀ (d : Nat) (t : TypeId) (ks : List (Option IntKind)) (cs : List Value) (fuel : Nat) (x : DataW H × List MemPlace), flatAt P d t = some ks → DataW.trod enc P w base spare held fuel t cs = some x → Fit ks cs
  | 0, _, _, _, _, _, h, _ => by cases h
  | d + 1, t, ks, cs, fuel, x, h, ht => by
    unfold flatAt at h
    split at h
    · rename_i hu
      cases h
      obtain ⟨b, rfl, _⟩ := DataW.trod_bool hu ht
      exact ⟨trivial, trivial⟩
    · rename_i q hu
      cases h
      obtain ⟨n, rfl, _, hw⟩ := DataW.trod_int hu ht
      simp only [Lit.wf, Bool.and_eq_true, decide_eq_true_eq] at hw
      exact ⟨⟨rfl, hw.1, hw.2⟩, trivial⟩
    · rename_i n e hu
      split at h
      · rename_i ks' hk
        split at h
        · rename_i hc
          cases h
          obtain ⟨xs, m, _, _, hlen, hxl, hel⟩ := DataW.trod_array hu ht
          refine fit_reps (m := P.cellsOf e) n cs (by rw [hlen, hc.2]) fun i hi => ?_
          have h1 := hel i hi
          rw [List.getElem?_eq_getElem (by omega)] at h1
          exact fit_of_trod d e ks' _ m _ hk h1
        · cases h
      · cases h
    · rename_i fs hu
      split at h
      · rename_i ks' hk
        split at h
        · rename_i hc
          cases h
          obtain ⟨xs, n, _, _, hl, hlen, hf⟩ := DataW.trod_struct hu ht
          have := fit_flat_fs fs.toList 0 _ cs hk (fun f hfm ks' hk' => by
            obtain ⟨i, hi⟩ := List.getElem?_of_mem hfm
            have h1 := hf i f (by rw [← hi]; simp)
            have hil : i < xs.length := by rw [hlen]; simpa using (List.getElem?_eq_some_iff.1 hi).1
            rw [List.getElem?_eq_getElem hil] at h1
            exact fit_of_trod d f.type ks' _ n _ hk' h1) (by rw [hl, hc]; omega)
          simpa using this
        · cases h
      · cases h
    · cases h

theorem slice_at {P : Program} {W : World} {r : Reach} {base : Nat} {t e : TypeId} {a : Addr} {len cap : Nat} (hu : P.underlying t = some (.slice e)) (ho : Value.okWide P W r base t (.slice (some a) len cap)) : a.spot = none ∧ a.block < W.heap.size := by
  unfold Value.okWide at ho
  simp only [hu] at ho
  unfold Cell.okWide Cell.ok at ho
  simp only [hu] at ho
  obtain ⟨_, _, _, h1, row, cells, h2, _⟩ := ho
  refine ⟨h1, ?_⟩
  unfold World.shape? at h2
  split at h2
  · rename_i hh
    rw [Array.getElem?_eq_some_iff] at hh
    exact hh.1
  · cases h2

theorem Addr.add_none {a : Addr} (h : a.spot = none) (j : Nat) : a.add j = ⟨a.block, a.off + j, none⟩ := by
  obtain ⟨b, off, spot⟩ := a
  dsimp only at h
  subst h
  exact addr_add b off j

theorem open_flats {H : Type} {enc : TypeId × Value → H} {P : Program} {W : World} {r : Reach} {base : Nat} {t e : TypeId} {v : Value} {d : DataW H} {p : List MemPlace} {D s : Nat} {ks : List (Option IntKind)} (hu : P.underlying t = some (.slice e)) (hks : flatAt P D e = some ks) (hsz : P.cellsOf e = s)
    (ho : Value.okWide P W r base t v) (h : DataW.Trod enc P W 0 (fun _ => true) true t v d p) :
    ∃ a cap, ∃ l : List (List Value), v = .slice a l.length cap ∧ l.length ≤ 9223372036854775807 ∧ Es s W v l ∧ ∀ x ∈ l, Fit ks x := by
  obtain ⟨fuel, hf⟩ := h
  obtain ⟨a0, len, cap, rfl⟩ := okWide_slice hu ho
  rcases Deep.open_slice hu hf with ⟨hcs, _⟩ | ⟨a, len', cap', m, n, Dt, Pl, hcs, hb, hl, hc, hm, _, hel⟩
  · simp only [Value.cells, List.cons.injEq, Value.slice.injEq, and_true] at hcs
    obtain ⟨rfl, rfl, rfl⟩ := hcs
    exact ⟨none, 0, [], rfl, by simp, .inl ⟨rfl, rfl⟩, by simp⟩
  · simp only [Value.cells, List.cons.injEq, Value.slice.injEq, and_true] at hcs
    obtain ⟨rfl, rfl, rfl⟩ := hcs
    simp only [if_true] at hm
    subst hm
    obtain ⟨h1, h2⟩ := slice_at hu ho
    have hall : ∀ i : Fin len, ∃ cs', Fit ks cs' ∧ W.rangeAt a.block (a.off + i.1 * s) cs' := by
      intro i
      obtain ⟨cs', hw, ht⟩ := hel i.1 (by have := i.2; omega)
      rw [hsz] at hw
      obtain ⟨_, hcl, hat⟩ := World.cells?_some hw
      refine ⟨cs', fit_of_trod D e ks cs' n _ hks ht, fun j u hj => ?_⟩
      have hjl := (List.getElem?_eq_some_iff.1 hj).1
      have := hat j (by omega)
      rw [Addr.add_none h1, Addr.add_none (by rfl)] at this
      rw [this]; exact hj
    have hch := fun i => Classical.choose_spec (hall i)
    obtain ⟨l, hll⟩ : ∃ l, l = (List.finRange len).map fun i => Classical.choose (hall i) := ⟨_, rfl⟩
    have hlen : l.length = len := by rw [hll]; simp
    have hget : ∀ (i : Nat) x, l[i]? = some x → ∃ h : i < len, x = Classical.choose (hall ⟨i, h⟩) := by
      intro i x hx
      have hi : i < len := by rw [← hlen]; exact (List.getElem?_eq_some_iff.1 hx).1
      rw [hll, List.getElem?_map, List.getElem?_eq_getElem (by simpa using hi)] at hx
      simp only [List.getElem_finRange, Option.map_some, Option.some.injEq] at hx
      exact ⟨hi, hx.symm⟩
    have hm63 : m ≤ 9223372036854775807 := by simp only [maxLen] at hc; omega
    refine ⟨some a, m, l, by rw [hlen], by omega, .inr ⟨a.block, a.off, m, ?_, by omega, hm63, h2, ?_⟩, ?_⟩
    · rw [hlen]
      congr 1
      obtain ⟨b, off, spot⟩ := a
      dsimp only at h1
      subst h1
      rfl
    · intro i x hx
      obtain ⟨hi, rfl⟩ := hget i x hx
      exact (hch ⟨i, hi⟩).2
    · intro x hx
      obtain ⟨i, hi⟩ := List.getElem?_of_mem hx
      obtain ⟨hi', rfl⟩ := hget i x hi
      exact (hch ⟨i, hi'⟩).1
end Go.Proofs.Ytihlbfbplmehiaa
