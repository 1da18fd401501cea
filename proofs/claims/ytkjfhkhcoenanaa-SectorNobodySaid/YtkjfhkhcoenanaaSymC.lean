/- The evaluator over memory known by name: operations that leave memory alone. -/
import Derived.Test.YtkjfhkhcoenanaaSymB
namespace Go.Proofs.Ytkjfhkhcoenanaa.Sy
open Go.RowKit

mutual
theorem ofValue_den (σ : List (Nat × Nat)) : ∀ (x : Value) (v : V), ofValue x = some v → den σ v = some x := by
  intro x v h
  unfold ofValue at h
  split at h <;> first | (cases h; simp only [den, denL, DB.val, DN.val]) | cases h
theorem ofValues_den (σ : List (Nat × Nat)) : ∀ (l : List Value) (vs : List V), ofValues l = some vs → denL σ vs = some l
  | [], vs, h => by simp only [ofValues, Option.some.injEq] at h; subst h; exact denL_nil
  | x :: l, vs, h => by
    unfold ofValues at h
    split at h
    · rename_i v hv
      split at h
      · rename_i y hy
        cases h
        exact denL_cons (ofValue_den σ x v hv) (ofValues_den σ l y hy)
      · cases h
    · cases h
end
theorem zeroCells_den {σ : List (Nat × Nat)} {z : Value} {l : List V} (h : zeroCells z = some l) : denL σ l = some z.cells.toList := by
  unfold zeroCells at h
  split at h
  · exact ofValues_den σ _ _ h
  · rename_i hz
    split at h
    · rename_i x hx
      cases h
      have := cells_den (ofValue_den σ _ _ hx)
      have e : cellsOf x = [x] := by
        cases x <;> try rfl
        case agg cs =>
          have hd := ofValue_den [] _ _ hx
          simp only [den] at hd
          split at hd
          · cases hd; exact absurd rfl (hz _)
          · cases hd
      rwa [e] at this
    · cases h

section
variable {σ : List (Nat × Nat)} {n : Nat} {tm : PT V} {a : Act} {P : Program} {m : Mem}

theorem ev_den (hT : RT σ n tm a) {x : Operand} {v : V} (h : ev tm x = some v) : den σ v = some (a.eval x) := by
  cases x with
  | tmp t => exact hT.get t v h
  | const c => exact ofValue_den σ c v h
  | global g => cases h
  | func f => simp only [ev, Option.some.injEq] at h; subst h; simp only [den, denL, Act.eval]
theorem evs_den (hT : RT σ n tm a) : ∀ {l : List Operand} {vs : List V}, evs tm l = some vs → denL σ vs = some (l.map a.eval)
  | [], vs, h => by simp only [evs, Option.some.injEq] at h; subst h; exact denL_nil
  | x :: l, vs, h => by
    unfold evs at h
    split at h
    · rename_i v hv
      split at h
      · rename_i y hy
        cases h
        exact denL_cons (ev_den hT hv) (evs_den hT hy)
      · cases h
    · cases h

theorem isRow_run {t : TypeId} {b : Bool} (h : isRow P t = some b) (w : World) : (isAgg t).run P w = .ok b w := by
  unfold isRow at h
  unfold isAgg
  split at h
  · rename_i hu; cases h; simp [run_underlying hu]
  · rename_i hu; cases h; simp [run_underlying hu]
  · rename_i d h1 h2 hu
    cases h
    rw [Sem.run_bind, run_underlying hu]
    cases d <;> first | rfl | exact absurd rfl (h1 _) | exact absurd rfl (h2 _ _)
  · cases h
theorem size_run {t : TypeId} {z : Nat} (h : size? P t = some z) (w : World) : (sizeOf t).run P w = .ok z w := by
  unfold size? at h
  split at h
  · rename_i i hi; cases h; simp [sizeOf, typeInfo, hi]
  · cases h
theorem cut_eq {l k : List V} {z : Nat} (h : cut l z = some k) : k = l.take z ∧ z ≤ l.length := by
  unfold cut at h
  cases hb : Nat.ble z l.length with
  | true => simp only [hb, Option.some.injEq] at h; exact ⟨h.symm, Nat.le_of_ble_eq_true hb⟩
  | false => simp only [hb] at h; cases h

/-- a part of an aggregate -/
theorem sub_part {t : TypeId} {cs : List V} {ys : List Value} {o : Nat} {v : V} (h : sub P t cs o = some v) (hd : denL σ cs = some ys) : ∃ x, den σ v = some x ∧ ∀ w, (part t ys.toArray o).run P w = .ok x w := by
  unfold sub at h
  split at h
  · rename_i hr
    split at h
    · rename_i z hz
      split at h
      · rename_i l hl
        cases h
        obtain ⟨rfl, hle⟩ := cut_eq hl
        have h2 := denL_take z (denL_drop o hd)
        refine ⟨.agg ((ys.drop o).take z).toArray, by simp only [den, h2], fun w => ?_⟩
        unfold part
        simp only [Sem.run_bind, isRow_run hr w, Result.andThen_ok, if_true, size_run hz w, Sem.run_pure]
        congr 2
        rw [List.extract_toArray, List.extract_eq_take_drop]
        simp
      · cases h
    · cases h
  · rename_i hr
    rw [nth_eq] at h
    obtain ⟨x, hx, h1⟩ := denL_nth hd h
    refine ⟨x, h1, fun w => ?_⟩
    unfold part
    have hx' : ys.toArray[o]? = some x := by simpa using hx
    simp only [Sem.run_bind, isRow_run hr w, Result.andThen_ok, Bool.false_eq_true, if_false, hx', Sem.run_pure]
  · cases h

theorem live_cells {w : World} {b c : Nat} {k : Blk} (h : holds σ w b c k) : (∃ ys, denL σ (blkCells k) = some ys ∧ ∀ j x, ys[j]? = some x → w.cell? ⟨b, j, none⟩ = some x ∧ w.frozen? ⟨b, j, none⟩ = false) := by
  cases k with
  | cells t cs =>
    obtain ⟨xs, h1, h2⟩ := h
    refine ⟨xs, h1, fun j x hj => ?_⟩
    constructor
    · simp only [World.cell?, h2]; simpa using hj
    · simp [World.frozen?, h2]
  | row t z xs =>
    obtain ⟨ys, cur, h1, h2, h3, _⟩ := h
    refine ⟨ys, h1, fun j x hj => ?_⟩
    constructor
    · simp only [World.cell?, h2]
      rw [← h3, List.getElem?_take] at hj
      split at hj
      · simpa using hj
      · cases hj
    · simp [World.frozen?, h2]
  | gone => exact ⟨[], denL_nil, fun j x hj => by simp at hj⟩

theorem load_run {S : List Nat} {w0 w : World} (hM : RM S w0 σ m w) {t : TypeId} {b o : Nat} {v : V} (h : load P m t b o = some v) :
    ∃ y x, σ[b]? = some y ∧ den σ v = some x ∧ (loadVar t ⟨y.1, o, none⟩).run P w = .ok x w := by
  unfold load at h
  split at h
  · rename_i k hk
    obtain ⟨b', c, hs, hh⟩ := hM.blk _ _ hk
    obtain ⟨ys, hy, hc⟩ := live_cells hh
    refine ⟨(b', c), ?_⟩
    unfold sub at h
    split at h
    · rename_i hr
      split at h
      · rename_i z hz
        split at h
        · rename_i l hl
          cases h
          obtain ⟨rfl, hle⟩ := cut_eq hl
          have h2 := denL_take z (denL_drop o hy)
          have hlen : ((ys.drop o).take z).length = z := by
            rw [denL_length h2, List.length_take]; omega
          refine ⟨.agg ((ys.drop o).take z).toArray, hs, by simp only [den, h2], ?_⟩
          have hlc : (loadCells ⟨b', o, none⟩ z).run P w = .ok ((ys.drop o).take z).toArray w := by
            have := run_loadCells_list (P := P) w ⟨b', o, none⟩ ((ys.drop o).take z) (fun j u hj => by
              rw [addr_add]
              rw [List.getElem?_take] at hj
              split at hj
              · rw [List.getElem?_drop] at hj; exact (hc _ _ hj).1
              · cases hj)
            rwa [hlen] at this
          unfold loadVar
          simp only [Sem.run_bind, isRow_run hr w, Result.andThen_ok, if_true, size_run hz w, hlc, Sem.run_pure]
        · cases h
      · cases h
    · rename_i hr
      rw [nth_eq] at h
      obtain ⟨x, hx, h1⟩ := denL_nth hy h
      refine ⟨x, hs, h1, ?_⟩
      unfold loadVar
      simp only [Sem.run_bind, isRow_run hr w, Result.andThen_ok, Bool.false_eq_true, if_false]
      simp only [Go.load, Sem.run, (hc _ _ hx).1]
    · cases h
  · cases h
end
end Go.Proofs.Ytkjfhkhcoenanaa.Sy
