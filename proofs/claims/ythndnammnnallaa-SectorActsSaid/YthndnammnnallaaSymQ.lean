/- The evaluator over memory known by name: maps that are written, and gone through. -/
import Derived.Test.YthndnammnnallaaSymJ
namespace Go.Proofs.Ythndnammnnallaa.Sy
open Go.RowKit

section
variable {S : List Nat} {w0 w w' : World} {ρ : Nat → Int} {g : G} {σ : List (Nat × Nat)} {m m' : Mem} {P : Program} {n : Nat} {tm : TM} {a : Act} {o : Oper}

theorem den_new_map {b c : Nat} (hM : RM ρ S w0 σ m w) : den ρ (σ ++ [(b, c)]) (.map m.next) = some (.map (some b)) := by
  simp only [den]
  rw [← hM.len, get_last]
theorem upd_setObj (w : World) (b : Nat) (x : Obj) : Upd1 b w { w with heap := w.heap.setIfInBounds b x } :=
  ⟨rfl, rfl, rfl, by simp, fun i hi => by
    show (w.heap.setIfInBounds b x)[i]? = w.heap[i]?
    rw [Array.getElem?_setIfInBounds]
    have : ¬ b = i := fun e => hi e.symm
    simp [this]⟩
theorem heap_setObj {w : World} {b : Nat} {x y : Obj} (h : w.heap[b]? = some y) : ({ w with heap := w.heap.setIfInBounds b x } : World).heap[b]? = some x := by
  show (w.heap.setIfInBounds b x)[b]? = some x
  have : b < w.heap.size := (Array.getElem?_eq_some_iff.1 h).1
  simp [this]
theorem mapOf_get {b : Nat} {es : List (V × V)} (h : mapOf m b = some es) : m.blks.get b = some (.map es) := by
  unfold mapOf at h
  split at h
  · rename_i es' hb; cases h; exact hb
  · cases h
theorem iterOf_get {b mb n : Nat} {seen : List Nat} (h : iterOf m b = some (mb, n, seen)) : m.blks.get b = some (.iter mb n seen) := by
  unfold iterOf at h
  split at h
  · rename_i hb; cases h; exact hb
  · cases h
theorem insert_sound (hM : RM ρ S w0 σ m w) {t : TypeId} {xv kv yv : V} {a b c : Value} (h : insertV P m t xv kv yv = some m') (ha : den ρ σ xv = some a) (hb : den ρ σ kv = some b) (hc : den ρ σ yv = some c) :
    ∃ w', RM ρ S w0 σ m' w' ∧ (Instr.mapUpdate t a b c).run P w = .ok () w' := by
  unfold insertV at h
  split at h
  · rename_i kt et hu
    have hu := und_eq hu
    split at h
    · rename_i d hd
      have hd := und_eq hd
      split at h
      · cases h
      · rename_i hk
        have hkey := isKeyV_ok hk hb
        split at h
        · rename_i bn
          split at h
          · cases h
          · rename_i hlim
            have hlim := Nat.le_of_ble_eq_true hlim
            split at h
            · rename_i es hes
              obtain ⟨bm, cc, xs, hs, hh, hok⟩ := mapOf_ok hM hes
              obtain ⟨y, hy, rfl⟩ := den_map ha
              rw [hs] at hy; cases hy
              split at h
              · rename_i hf
                cases h
                have h2 := (findK_ok hb es xs.toList 0 _ hok.ents hf).1 rfl
                refine ⟨_, hM.upd_blk (mapOf_get hes) hs rfl rfl hlim (upd_setObj w bm (.map (xs.push { key := b, val := c, born := es.length }) (es.length + 1))) ⟨xs.push { key := b, val := c, born := es.length }, ?_, ?_⟩, ?_⟩
                · rw [heap_setObj hh]; simp
                · refine ⟨by simp [hok.1], fun i k v hi => ?_⟩
                  by_cases hlt : i < es.length
                  · rw [List.getElem?_append_left hlt] at hi
                    obtain ⟨kx, vx, e1, e2, e3⟩ := hok.2 i k v hi
                    exact ⟨kx, vx, e1, e2, by rw [Array.getElem?_push_lt (by rw [hok.1]; exact hlt), ← Array.getElem?_eq_getElem]; exact e3⟩
                  · have hi2 : i = es.length := by
                      rcases Nat.lt_or_ge es.length i with h3 | h3
                      · rw [List.getElem?_eq_none (by simp; omega)] at hi; cases hi
                      · omega
                    subst hi2
                    simp only [List.getElem?_append_right (Nat.le_refl _), Nat.sub_self, List.getElem?_cons_zero, Option.some.injEq, Prod.mk.injEq] at hi
                    obtain ⟨rfl, rfl⟩ := hi
                    exact ⟨b, c, hb, hc, by rw [← hok.1]; simp⟩
                · simp only [Instr.mapUpdate, Sem.run_bind, run_underlying hu, Result.andThen_ok, MapKept.run_getObj_map hh, MapKept.run_checkKey hd hkey, MapKept.run_findKey hd h2, MapKept.run_setObj_map _ hh]
              · cases h
            · cases h
        · cases h
    · cases h
  · cases h

theorem memN_eq (i : Nat) : ∀ (l : List Nat), memN i l = l.contains i
  | [] => rfl
  | j :: l => by
    simp only [memN, memN_eq i l, List.contains_cons]
    congr 1
    rw [Bool.eq_iff_iff, beq_iff_eq, Nat.beq_eq]
theorem leftN_mem (seen : List Nat) : ∀ (k i j : Nat), j ∈ leftN seen k i ↔ (i ≤ j ∧ j < i + k ∧ seen.contains j = false)
  | 0, i, j => by simp [leftN]; omega
  | k + 1, i, j => by
    simp only [leftN, memN_eq]
    cases hc : seen.contains i with
    | true =>
      simp only
      rw [leftN_mem seen k (i + 1) j]
      constructor
      · rintro ⟨h1, h2, h3⟩; exact ⟨by omega, by omega, h3⟩
      · rintro ⟨h1, h2, h3⟩
        refine ⟨?_, by omega, h3⟩
        rcases Nat.lt_or_eq_of_le h1 with h | h
        · exact h
        · subst h; rw [hc] at h3; cases h3
    | false =>
      simp only [List.mem_cons]
      rw [leftN_mem seen k (i + 1) j]
      constructor
      · rintro (rfl | ⟨h1, h2, h3⟩)
        · exact ⟨Nat.le_refl _, by omega, hc⟩
        · exact ⟨by omega, by omega, h3⟩
      · rintro ⟨h1, h2, h3⟩
        rcases Nat.lt_or_eq_of_le h1 with h | h
        · exact .inr ⟨h, by omega, h3⟩
        · exact .inl h.symm
theorem nextAlt_all {f : Nat → T (V × Mem)} {K : V × Mem → Prop} : ∀ {l : List Nat}, (nextAlt f l).all ρ K → ∀ i ∈ l, (f i).all ρ K
  | [], h, i, hi => by cases hi
  | [j], h, i, hi => by
    simp only [List.mem_cons, List.not_mem_nil, or_false] at hi
    subst hi; exact h
  | j :: k :: l, h, i, hi => by
    obtain ⟨h1, h2⟩ := h
    rcases List.mem_cons.1 hi with rfl | hi
    · exact h1
    · exact nextAlt_all (l := k :: l) h2 i hi
/-- 'next', the map as it was when the loop began -/
theorem run_next {w : World} {ty : TypeId} {bi bm n : Nat} {seen : List Nat} {xs : Array MapEntry} (hb : w.heap[bm]? = some (.map xs n)) (hi : w.heap[bi]? = some (.mapIter (some bm) n seen.toArray n)) (hold : ∀ x ∈ xs.toList, x.born < n) :
    ((leftOf xs seen.toArray).size = 0 ∧ (Instr.next (.pointer (some ⟨bi, 0, none⟩)) false ty).run P w = .ok (.tuple #[.bool false]) w) ∨
    ∃ e ∈ (leftOf xs seen.toArray).toList, ∃ w1 : World, (w1 = w ∨ w1 = w.drew) ∧ (Instr.next (.pointer (some ⟨bi, 0, none⟩)) false ty).run P w = .ok (.tuple #[.bool true, e.key, e.val]) { w1 with heap := w1.heap.setIfInBounds bi (.mapIter (some bm) n (seen.toArray.push e.born) n) } := by
  simp only [Instr.next, getObj, Sem.run_bind, Sem.run, hi, hb, Result.andThen, next_test_false seen.toArray xs n n hold (Nat.le_refl _), Bool.false_eq_true, if_false]
  unfold leftOf
  have hmem : ∀ x ∈ (Array.filter (fun e => !seen.toArray.contains e.born) xs).toList, x.born < n := fun x hx => hold x (by simp at hx ⊢; exact hx.1)
  generalize Array.filter (fun e => !seen.toArray.contains e.born) xs = L at hmem ⊢
  have e1 : L.filter (fun x => decide (x.born < n)) = L := Array.filter_eq_self.2 (fun x hx => by simpa using hmem x (by simpa using hx))
  have e2 : L.filter (fun x => decide (x.born ≥ n)) = #[] := by
    rw [Array.filter_eq_empty_iff]
    intro x hx
    have := hmem x (by simpa using hx)
    simp
    omega
  simp only [e1, e2, Array.append_empty]
  by_cases h0 : L.size = 0
  · left
    have : L = #[] := Array.eq_empty_of_size_eq_zero h0
    subst this
    refine ⟨rfl, ?_⟩
    simp [choose, Sem.run, Question.forced]
  · right
    have hne : L.isEmpty = false := by simp [Array.isEmpty, h0]
    simp only [hne, Bool.false_eq_true, if_false, Array.empty_append, Array.size_map]
    have hch : ∃ (j : Nat) (w1 : World), j < L.size ∧ (w1 = w ∨ w1 = w.drew) ∧ (choose (Question.mapNext L.size)).run P w = .ok j w1 := by
      by_cases hf : L.size ≤ 1
      · exact ⟨0, w, by omega, .inl rfl, by simp [choose, Sem.run, Question.forced, hf]⟩
      · exact ⟨_, w.drew, Nat.mod_lt _ (by omega), .inr rfl, by
          simp only [choose, Sem.run, Question.forced, decide_eq_true_eq, hf, if_false, Question.cut]
          rfl⟩
    obtain ⟨j, w1, hj, hw1, hrun⟩ := hch
    have hh1 : w1.heap = w.heap := by rcases hw1 with rfl | rfl <;> rfl
    refine ⟨L[j], by simp, w1, hw1, ?_⟩
    have hset : ∀ o' : Obj, (setObj bi o').run P w1 = .ok () { w1 with heap := w1.heap.setIfInBounds bi o' } := fun o' => by
      simp only [setObj, Sem.run, hh1, hi]
    simp only [hrun, Array.getElem?_map, Array.getElem?_eq_getElem hj, Option.map_some, Sem.run_bind, hset, Result.andThen]
    rfl
theorem RM.drew1 (hM : RM ρ S w0 σ m w) : RM ρ S w0 σ m w.drew := ⟨hM.fr.drew, hM.len, hM.blk, hM.own, hM.inj⟩
theorem left_mem {es : List (V × V)} {xs : Array MapEntry} (hok : MapOk ρ σ es xs) (seen : List Nat) {e : MapEntry} (h : e ∈ (leftOf xs seen.toArray).toList) : ∃ i k v, i ∈ leftN seen es.length 0 ∧ es[i]? = some (k, v) ∧ e.born = i ∧ den ρ σ k = some e.key ∧ den ρ σ v = some e.val := by
  unfold leftOf at h
  simp only [Array.toList_filter, List.mem_filter, Bool.not_eq_true'] at h
  obtain ⟨hm, hs⟩ := h
  obtain ⟨i, hi⟩ := List.getElem?_of_mem hm
  have hlt : i < es.length := by
    rw [← hok.1]
    have := (List.getElem?_eq_some_iff.1 hi).1
    simpa using this
  obtain ⟨kx, vx, h1, h2, h3⟩ := hok.2 i es[i].1 es[i].2 (by rw [List.getElem?_eq_getElem hlt])
  have : xs.toList[i]? = some (MapEntry.mk kx vx i) := by simpa using h3
  rw [hi] at this
  cases this
  refine ⟨i, es[i].1, es[i].2, ?_, by rw [List.getElem?_eq_getElem hlt], rfl, h1, h2⟩
  rw [leftN_mem]
  exact ⟨by omega, by omega, by simpa using hs⟩
theorem left_size {es : List (V × V)} {xs : Array MapEntry} (hok : MapOk ρ σ es xs) (seen : List Nat) {i : Nat} (h : i ∈ leftN seen es.length 0) : (leftOf xs seen.toArray).size ≠ 0 := by
  rw [leftN_mem] at h
  obtain ⟨_, h2, h3⟩ := h
  have hlt : i < es.length := by omega
  obtain ⟨kx, vx, _, _, h6⟩ := hok.2 i es[i].1 es[i].2 (by rw [List.getElem?_eq_getElem hlt])
  have hm : ({ key := kx, val := vx, born := i } : MapEntry) ∈ xs := Array.mem_of_getElem? h6
  have : ({ key := kx, val := vx, born := i } : MapEntry) ∈ leftOf xs seen.toArray := by
    unfold leftOf
    rw [Array.mem_filter]
    exact ⟨hm, by simpa using h3⟩
  intro h0
  have := Array.eq_empty_of_size_eq_zero h0
  simp_all
theorem next_sound {K : V × Mem → Prop} {x : Operand} {str : Bool} (hM : RM ρ S w0 σ m w) (ho : o.op = .next x str) {xv : V} (h : (if str then T.bad else nextV m xv).all ρ K) (ha : den ρ σ xv = some (a.eval x)) : ∃ v m', K (v, m') ∧ MRes P ρ S w0 σ a w o v m' := by
  cases str with
  | true => cases h
  | false =>
    simp only [Bool.false_eq_true, if_false] at h
    unfold nextV at h
    split at h
    · rename_i b q
      split at h
      · rename_i hbq
        simp only [Bool.and_eq_true] at hbq
        have hq := Nat.eq_of_beq_eq_true hbq.1
        have hlim := Nat.le_of_ble_eq_true hbq.2
        subst hq
        split at h
        · rename_i mb nn seen hit
          obtain ⟨bi, ci, bm, c, hs, hsm, hh⟩ := iterOf_ok hM hit
          split at h
          · rename_i es hes
            obtain ⟨bm', c', xs, hs', hhm, hok⟩ := mapOf_ok hM hes
            rw [hsm] at hs'; cases hs'
            split at h
            · rename_i hn
              have hn := Nat.eq_of_beq_eq_true hn
              subst hn
              obtain ⟨y, hy, e⟩ := den_ptr ha
              rw [hs] at hy; cases hy
              have hold : ∀ x ∈ xs.toList, x.born < es.length := by
                intro x hx
                obtain ⟨i, hi⟩ := List.getElem?_of_mem hx
                have hlt : i < es.length := by
                  rw [← hok.1]
                  have := (List.getElem?_eq_some_iff.1 hi).1
                  simpa using this
                obtain ⟨kx, vx, _, _, h6⟩ := hok.2 i es[i].1 es[i].2 (by rw [List.getElem?_eq_getElem hlt])
                have : xs.toList[i]? = some (MapEntry.mk kx vx i) := by simpa using h6
                rw [hi] at this
                cases this
                exact hlt
              have hrun := run_next (P := P) (ty := o.type) hhm hh hold
              split at h
              · rename_i hl
                rcases hrun with ⟨_, hr⟩ | ⟨e', he', _⟩
                · refine ⟨_, _, h, [], w, .tuple #[.bool false], by simpa using hM, by simp only [den, denL, DB.val], .inl ?_⟩
                  unfold execOp
                  simp only [ho, e, Sem.run_bind, hr, Result.andThen_ok, Sem.run_pure]
                · obtain ⟨i, _, _, hi, _⟩ := left_mem hok seen he'
                  rw [hl] at hi; cases hi
              · rename_i hl
                rcases hrun with ⟨h0, _⟩ | ⟨e', he', w1, hw1, hr⟩
                · cases hl2 : leftN seen es.length 0 with
                  | nil => exact absurd hl2 hl
                  | cons i l => exact absurd h0 (left_size hok seen (i := i) (by rw [hl2]; exact List.mem_cons_self))
                · obtain ⟨i, k, v, hi, hes', hb, h1, h2⟩ := left_mem hok seen he'
                  have hone := nextAlt_all h i hi
                  unfold nextOne at hone
                  rw [nth_eq, hes'] at hone
                  have hM1 : RM ρ S w0 σ m w1 := by rcases hw1 with rfl | rfl; exact hM; exact hM.drew1
                  have hh1 : w1.heap[bi]? = some (.mapIter (some bm) es.length seen.toArray es.length) := by rcases hw1 with rfl | rfl; exact hh; exact hh
                  refine ⟨_, _, hone, [], { w1 with heap := w1.heap.setIfInBounds bi (.mapIter (some bm) es.length (seen.toArray.push e'.born) es.length) }, .tuple #[.bool true, e'.key, e'.val], ?_, ?_, .inl ?_⟩
                  · rw [List.append_nil]
                    refine hM1.upd_blk (iterOf_get hit) hs rfl rfl hlim (upd_setObj w1 bi _) ⟨bm, c, hsm, ?_⟩
                    rw [heap_setObj hh1, hb]
                    simp
                  · rw [List.append_nil]
                    simp only [den, denL, DB.val, h1, h2]
                  · unfold execOp
                    simp only [ho, e, Sem.run_bind, hr, Result.andThen_ok, Sem.run_pure]
            · cases h
          · cases h
        · cases h
      · cases h
    · cases h
end
end Go.Proofs.Ythndnammnnallaa.Sy
