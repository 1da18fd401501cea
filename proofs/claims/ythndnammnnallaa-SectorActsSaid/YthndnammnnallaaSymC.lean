/- The evaluator over memory known by name: operations that leave memory alone. -/
import Derived.Test.YthndnammnnallaaSymB
namespace Go.Proofs.Ythndnammnnallaa.Sy
open Go.RowKit

mutual
theorem ofValue_den (ρ : Nat → Int) (σ : List (Nat × Nat)) : ∀ (x : Value) (v : V), ofValue x = some v → den ρ σ v = some x := by
  intro x v h
  unfold ofValue at h
  split at h <;> first | (cases h; simp only [den, denL, DB.val, DN.val]) | cases h
theorem ofValues_den (ρ : Nat → Int) (σ : List (Nat × Nat)) : ∀ (l : List Value) (vs : List V), ofValues l = some vs → denL ρ σ vs = some l
  | [], vs, h => by simp only [ofValues, Option.some.injEq] at h; subst h; exact denL_nil
  | x :: l, vs, h => by
    unfold ofValues at h
    split at h
    · rename_i v hv
      split at h
      · rename_i y hy
        cases h
        exact denL_cons (ofValue_den ρ σ x v hv) (ofValues_den ρ σ l y hy)
      · cases h
    · cases h
end
theorem zeroCells_den {ρ : Nat → Int} {σ : List (Nat × Nat)} {z : Value} {l : List V} (h : zeroCells z = some l) : denL ρ σ l = some z.cells.toList := by
  unfold zeroCells at h
  split at h
  · exact ofValues_den ρ σ _ _ h
  · rename_i hz
    split at h
    · rename_i x hx
      cases h
      have := cells_den (ofValue_den ρ σ _ _ hx)
      have e : cellsOf x = [x] := by
        cases x <;> try rfl
        case agg cs =>
          have hd := ofValue_den ρ [] _ _ hx
          simp only [den] at hd
          split at hd
          · cases hd; exact absurd rfl (hz _)
          · cases hd
      rwa [e] at this
    · cases h

theorem ti_info {P : Program} {t : TypeId} {i : TypeInfo} (h : ti P t = some i) : P.info? t = some i := by
  have h1 := PT.get_ofL _ _ _ _ h
  rw [Array.getElem?_toList] at h1
  have h2 : t < P.types.size := (Array.getElem?_eq_some_iff.1 h1).1
  unfold Tables.info?
  rw [if_pos h2]
  exact h1
theorem und_eq {P : Program} {t : TypeId} {d : TypeDesc} (h : und P t = some d) : P.underlying t = some d := by
  unfold und at h
  unfold Program.underlying
  split at h
  · rename_i i hi0
    rw [ti_info hi0]
    split at h
    · rename_i x u hd
      split at h
      · rename_i j hj
        obtain ⟨⟩ := i
        simp only at hd
        subst hd
        simp only [ti_info hj, Option.map_some]
        exact h
      · cases h
    · rename_i hd
      split
      · rename_i x u heq
        cases heq
        exact absurd rfl (hd _ _)
      · rename_i heq
        cases heq
        exact h
      · rename_i heq; cases heq
  · cases h
theorem fn_eq {P : Program} {f : FuncId} {fn : Func} (h : fn? P f = some fn) : P.funcs[f]? = some fn := by
  have h1 := PT.get_ofL _ _ _ _ h
  rw [Array.getElem?_toList] at h1
  exact h1
section
variable {ρ : Nat → Int} {σ : List (Nat × Nat)} {g : G} {n : Nat} {tm : TM} {a : Act} {P : Program} {m : Mem}

theorem ev_den (hT : RT ρ σ g.ng n tm a) {x : Operand} {v : V} (h : ev g.ng tm x = some v) : den ρ σ v = some (a.eval x) := by
  cases x with
  | tmp t => exact hT.get t v h
  | const c => exact ofValue_den ρ σ c v h
  | global q =>
    simp only [ev] at h
    cases hb : Nat.blt q g.ng with
    | false => simp only [hb] at h; cases h
    | true =>
      simp only [hb, Option.some.injEq] at h
      subst h
      obtain ⟨c, hc⟩ := hT.glob q (by simpa using hb)
      simp only [den, hc]
      rfl
  | func f => simp only [ev, Option.some.injEq] at h; subst h; simp only [den, denL, Act.eval]
theorem evs_den (hT : RT ρ σ g.ng n tm a) : ∀ {l : List Operand} {vs : List V}, evs g.ng tm l = some vs → denL ρ σ vs = some (l.map a.eval)
  | [], vs, h => by simp only [evs, Option.some.injEq] at h; subst h; exact denL_nil
  | x :: l, vs, h => by
    unfold evs at h
    split at h
    · rename_i v hv
      split at h
      · rename_i y hy
        cases h
        exact denL_cons (ev_den hT hv) (evs_den hT hy)
      · cases h
    · cases h

theorem isRow_run {t : TypeId} {b : Bool} (h : isRow P t = some b) (w : World) : (isAgg t).run P w = .ok b w := by
  unfold isRow at h
  unfold isAgg
  split at h
  · rename_i hu; (try have hu := und_eq hu); cases h; simp [run_underlying hu]
  · rename_i hu; (try have hu := und_eq hu); cases h; simp [run_underlying hu]
  · rename_i d h1 h2 hu; (try have hu := und_eq hu)
    cases h
    rw [Sem.run_bind, run_underlying hu]
    cases d <;> first | rfl | exact absurd rfl (h1 _) | exact absurd rfl (h2 _ _)
  · cases h
theorem size_run {t : TypeId} {z : Nat} (h : size? P t = some z) (w : World) : (sizeOf t).run P w = .ok z w := by
  unfold size? at h
  split at h
  · rename_i i hi; (try have hi := ti_info hi); cases h; simp [sizeOf, typeInfo, hi]
  · cases h
theorem cut_eq {l k : List V} {z : Nat} (h : cut l z = some k) : k = l.take z ∧ z ≤ l.length := by
  unfold cut at h
  cases hb : Nat.ble z l.length with
  | true => simp only [hb, Option.some.injEq] at h; exact ⟨h.symm, Nat.le_of_ble_eq_true hb⟩
  | false => simp only [hb] at h; cases h

/-- a part of an aggregate -/
theorem sub_part {t : TypeId} {cs : List V} {ys : List Value} {o : Nat} {v : V} (h : sub P t cs o = some v) (hd : denL ρ σ cs = some ys) : ∃ x, den ρ σ v = some x ∧ ∀ w, (part t ys.toArray o).run P w = .ok x w := by
  unfold sub at h
  split at h
  · rename_i hr
    split at h
    · rename_i z hz
      split at h
      · rename_i l hl
        cases h
        obtain ⟨rfl, hle⟩ := cut_eq hl
        have h2 := denL_take z (denL_drop o hd)
        refine ⟨.agg ((ys.drop o).take z).toArray, by simp only [den, h2], fun w => ?_⟩
        unfold part
        simp only [Sem.run_bind, isRow_run hr w, Result.andThen_ok, if_true, size_run hz w, Sem.run_pure]
        congr 2
        rw [List.extract_toArray, List.extract_eq_take_drop]
        simp
      · cases h
    · cases h
  · rename_i hr
    rw [nth_eq] at h
    obtain ⟨x, hx, h1⟩ := denL_nth hd h
    refine ⟨x, h1, fun w => ?_⟩
    unfold part
    have hx' : ys.toArray[o]? = some x := by simpa using hx
    simp only [Sem.run_bind, isRow_run hr w, Result.andThen_ok, Bool.false_eq_true, if_false, hx', Sem.run_pure]
  · cases h

/-- the cells of a range -/
theorem range_cells {w : World} {b c : Nat} {k : Blk} (h : holds ρ σ w b c k) {o z : Nat} {l : List V} (hl : k.range o z = some l) :
    l.length = z ∧ ∃ ys, denL ρ σ l = some ys ∧ ys.length = z ∧ ∀ j x, ys[j]? = some x → w.cell? ⟨b, o + j, none⟩ = some x ∧ w.frozen? ⟨b, o + j, none⟩ = false := by
  unfold Blk.range at hl
  cases hb : Nat.ble (o + z) k.size with
  | false => simp only [hb] at hl; cases hl
  | true =>
    simp only [hb] at hl
    have hle := Nat.le_of_ble_eq_true hb
    obtain ⟨h1, h2⟩ := PT.getN_get _ _ _ _ hl
    have key : ∀ (cur : Array Value) (t : TypeId), w.heap[b]? = some (.cells cur t (0, 0)) → cellsOk ρ σ cur k.size k.tab → l.length = z ∧ ∃ ys, denL ρ σ l = some ys ∧ ys.length = z ∧ ∀ j x, ys[j]? = some x → w.cell? ⟨b, o + j, none⟩ = some x ∧ w.frozen? ⟨b, o + j, none⟩ = false := by
      intro cur t hcur hok
      refine ⟨h1, ?_⟩
      have all : ∀ (l : List V) (q : Nat), q + l.length ≤ z → (∀ j, j < l.length → ∃ v, k.tab.get (o + (q + j)) = some v ∧ l[j]? = some v) → ∃ ys, denL ρ σ l = some ys ∧ ys.length = l.length ∧ ∀ j x, ys[j]? = some x → cur[o + (q + j)]? = some x := by
        intro l
        induction l with
        | nil => intro q _ _; exact ⟨[], denL_nil, rfl, fun j x hj => by simp at hj⟩
        | cons v l ih =>
          intro q hq hall
          simp only [List.length_cons] at hq
          obtain ⟨u, hu1, hu2⟩ := hall 0 (by simp)
          simp only [List.getElem?_cons_zero, Option.some.injEq] at hu2
          subst hu2
          obtain ⟨x, hx1, hx2⟩ := hok.2 _ _ (by omega) hu1
          obtain ⟨ys, hy1, hy2, hy3⟩ := ih (q + 1) (by omega) (fun j hj => by
            obtain ⟨u, h3, h4⟩ := hall (j + 1) (by simp; omega)
            exact ⟨u, by rw [show q + 1 + j = q + (j + 1) by omega]; exact h3, by simpa using h4⟩)
          refine ⟨x :: ys, denL_cons hx1 hy1, by simp [hy2], ?_⟩
          intro j y hj
          cases j with
          | zero => simp only [List.getElem?_cons_zero, Option.some.injEq] at hj; subst hj; exact hx2
          | succ j =>
            have := hy3 j y (by simpa using hj)
            rw [show q + (j + 1) = q + 1 + j by omega]; exact this
      obtain ⟨ys, hy1, hy2, hy3⟩ := all l 0 (by omega) (fun j hj => by
        obtain ⟨u, h3, h4⟩ := h2 j (by omega)
        exact ⟨u, by rw [Nat.zero_add]; exact h3, h4⟩)
      refine ⟨ys, hy1, by omega, fun j x hj => ?_⟩
      have hc := hy3 j x hj
      rw [Nat.zero_add] at hc
      exact ⟨by simp only [World.cell?, hcur]; simpa using hc, by simp [World.frozen?, hcur]⟩
    cases k with
    | cells t n cs => obtain ⟨cur, t, h3, h4, h5⟩ := h; exact key cur t h3 h4
    | row t z' n cs => obtain ⟨cur, h3, h4, h5⟩ := h; exact key cur t h3 h4
    | gone =>
      simp only [Blk.size] at hle
      have hz : z = 0 := by omega
      subst hz
      have : l = [] := List.eq_nil_of_length_eq_zero h1
      subst this
      exact ⟨rfl, [], denL_nil, rfl, fun j x hj => by simp at hj⟩
    | map es =>
      simp only [Blk.size] at hle
      have hz : z = 0 := by omega
      subst hz
      have : l = [] := List.eq_nil_of_length_eq_zero h1
      subst this
      exact ⟨rfl, [], denL_nil, rfl, fun j x hj => by simp at hj⟩
    | arr _ _ _ =>
      simp only [Blk.size] at hle
      have hz : z = 0 := by omega
      subst hz
      have : l = [] := List.eq_nil_of_length_eq_zero h1
      subst this
      exact ⟨rfl, [], denL_nil, rfl, fun j x hj => by simp at hj⟩
    | fn _ _ _ =>
      simp only [Blk.size] at hle
      have hz : z = 0 := by omega
      subst hz
      have : l = [] := List.eq_nil_of_length_eq_zero h1
      subst this
      exact ⟨rfl, [], denL_nil, rfl, fun j x hj => by simp at hj⟩
    | iter _ _ _ =>
      simp only [Blk.size] at hle
      have hz : z = 0 := by omega
      subst hz
      have : l = [] := List.eq_nil_of_length_eq_zero h1
      subst this
      exact ⟨rfl, [], denL_nil, rfl, fun j x hj => by simp at hj⟩

theorem load_run {S : List Nat} {w0 w : World} (hM : RM ρ S w0 σ m w) {t : TypeId} {b o : Nat} {v : V} (h : load P m t b o = some v) :
    ∃ y x, σ[b]? = some y ∧ den ρ σ v = some x ∧ (loadVar t ⟨y.1, o, none⟩).run P w = .ok x w := by
  unfold load at h
  split at h
  · rename_i k hk
    obtain ⟨b', c, hs, hh⟩ := hM.blk _ _ hk
    refine ⟨(b', c), ?_⟩
    split at h
    · rename_i hr
      split at h
      · rename_i z hz
        split at h
        · rename_i l hl
          cases h
          obtain ⟨hlen, ys, h2, hyl, hc⟩ := range_cells hh hl
          refine ⟨.agg ys.toArray, hs, by simp only [den, h2], ?_⟩
          have hlc : (loadCells ⟨b', o, none⟩ z).run P w = .ok ys.toArray w := by
            have := run_loadCells_list (P := P) w ⟨b', o, none⟩ ys (fun j u hj => by
              rw [addr_add]; exact (hc _ _ hj).1)
            rwa [hyl] at this
          unfold loadVar
          simp only [Sem.run_bind, isRow_run hr w, Result.andThen_ok, if_true, size_run hz w, hlc, Sem.run_pure]
        · cases h
      · cases h
    · rename_i hr
      split at h
      · rename_i u hl
        cases h
        obtain ⟨hlen, ys, h2, hyl, hc⟩ := range_cells hh hl
        obtain ⟨x, z, h1, h3, rfl⟩ := denL_cons_eq h2
        rw [denL_nil] at h3; cases h3
        refine ⟨x, hs, h1, ?_⟩
        have := (hc 0 x rfl).1
        unfold loadVar
        simp only [Sem.run_bind, isRow_run hr w, Result.andThen_ok, Bool.false_eq_true, if_false]
        simp only [Go.load, Sem.run]
        rw [Nat.add_zero] at this
        simp only [this]
      · cases h
    · cases h
  · cases h
end
end Go.Proofs.Ythndnammnnallaa.Sy
