/- The arguments of the statements of 06, as blocks. -/
import Derived.Test.YtihlbfbplmehiaaScanR
import Derived.Test.YtihlbfbplmehiaaOpen
namespace Go.Proofs.Ytihlbfbplmehiaa
open Go.RowKit Go.Shelf

theorem ld_agg_on {P : Program} {ops : Array Oper} {rest : List Oper} {op : Oper} {a : Act} {w : World} {Q : Exit → Act → World → Prop} (hw : Region.wanted op (yielded ops a.tmps) = true) {ty : TypeId} {x : Operand} (ho : op.op = .load ty x) {g o : Nat} (hx : a.eval x = .pointer (some ⟨g, o, none⟩)) {c : List Value} {t : TypeId} (hat : At w g c t) {d : TypeDesc}
    (hu : P.underlying ty = some d) (hd : d.isRow = true) (n : Nat) (hi : (P.info? ty).map (·.size) = some n) (hn : o + n ≤ c.length)
    (h : wpList P ops Q rest (a.put op.dst (.agg ((c.drop o).take n).toArray)) w) : wpList P ops Q (op :: rest) a w := by
  refine ld_rng hw ho hx (cs := (c.drop o).take n) ?_ hu hd (by rw [hi]; simp; omega) h
  intro j v hv
  rw [hat.cell]
  rw [List.getElem?_take] at hv
  split at hv
  · rwa [List.getElem?_drop] at hv
  · cases hv
theorem bel_drewN {B : Nat} {a w : World} (h : Below B a w) (n : Nat) : Below B a (w.drewN n) := h.trans ⟨rfl, rfl, rfl, Nat.le_refl _, fun _ _ => rfl⟩
theorem fit_i64s : ∀ (n : Nat) (cs : List Value), Fit (List.replicate n (some .i64)) cs → ∃ l : List Int, cs = l.map (.int .i64) ∧ l.length = n ∧ ∀ x ∈ l, -9223372036854775808 ≤ x ∧ x ≤ 9223372036854775807
  | 0, [], _ => ⟨[], rfl, rfl, by simp⟩
  | 0, _ :: _, h => h.elim
  | n + 1, [], h => h.elim
  | n + 1, .int k x :: cs, h => by
    obtain ⟨⟨rfl, h1, h2⟩, h⟩ := h
    obtain ⟨l, rfl, hl, hr⟩ := fit_i64s n cs h
    exact ⟨x :: l, rfl, by simp [hl], fun y hy => (List.mem_cons.1 hy).elim (fun e => e ▸ ⟨h1, h2⟩) (hr y)⟩
theorem fit_pages : ∀ (n : Nat) (cs : List Value), Fit (List.replicate n pgKinds).flatten cs → ∃ l : List Pg, cs = l.flatMap Pg.cells ∧ l.length = n ∧ ∀ p ∈ l, p.ok
  | 0, [], _ => ⟨[], rfl, rfl, by simp⟩
  | 0, _ :: _, h => h.elim
  | n + 1, cs, h => by
    rw [List.replicate_succ, List.flatten_cons] at h
    obtain ⟨h1, h2⟩ := fit_append h
    obtain ⟨p, hp, hok⟩ := fit_page h1
    obtain ⟨l, hl, hn, hr⟩ := fit_pages n _ h2
    refine ⟨p :: l, ?_, by simp [hn], fun y hy => (List.mem_cons.1 hy).elim (fun e => e ▸ hok) (hr y)⟩
    rw [List.flatMap_cons, ← hl, ← hp, List.take_append_drop]
theorem fit_bk {cs : List Value} (h : Fit bkKinds cs) : ∃ b : Bk, cs = b.cells ∧ b.ok := by
  unfold bkKinds at h
  obtain ⟨h1, h2⟩ := fit_append h
  obtain ⟨h3, h4⟩ := fit_append h1
  obtain ⟨ks, hks, hkl, hkr⟩ := fit_i64s _ _ h4
  obtain ⟨ps, hps, hpl, hpr⟩ := fit_pages _ _ h2
  have hl := fit_length h
  simp only [List.length_append, List.length_cons, List.length_nil, List.length_replicate] at h3 hks hps
  match hc : cs, hl, h3 with
  | .int _ a :: .int _ b :: rest, _, h3 =>
    obtain ⟨⟨rfl, a1, a2⟩, ⟨rfl, b1, b2⟩, _⟩ := h3
    have e : IntKind.u32.max = 4294967295 := rfl
    have e' : IntKind.u32.min = 0 := rfl
    rw [e] at b2
    rw [e'] at b1
    refine ⟨⟨a, b, ks, ps⟩, ?_, ⟨hkl, hpl, ⟨a1, a2⟩, ⟨b1, by show b < 4294967296; omega⟩, hkr, hpr⟩⟩
    show _ = bkCells a b ks ps
    unfold bkCells
    rw [← hks, ← hps]
    have := List.take_append_drop 8 rest
    simp only [List.cons_append, List.nil_append, List.take_succ_cons, List.drop_succ_cons, List.drop_zero, List.cons.injEq, true_and]
    exact this.symm
theorem fit_bks : ∀ (l : List (List Value)), (∀ x ∈ l, Fit bkKinds x) → ∃ bs : List Bk, l = bs.map Bk.cells ∧ ∀ b ∈ bs, b.ok
  | [], _ => ⟨[], rfl, by simp⟩
  | x :: l, h => by
    obtain ⟨b, rfl, hb⟩ := fit_bk (h x List.mem_cons_self)
    obtain ⟨bs, rfl, hbs⟩ := fit_bks l fun y hy => h y (List.mem_cons_of_mem _ hy)
    exact ⟨b :: bs, rfl, fun y hy => (List.mem_cons.1 hy).elim (fun e => e ▸ hb) (hbs y)⟩
theorem bksCells_get {bs : List Bk} (h : ∀ b ∈ bs, b.ok) {i r : Nat} {b : Bk} (hi : bs[i]? = some b) (hr : r < 66) : (bksCells bs)[66 * i + r]? = b.cells[r]? := by
  rw [← bksCells_at h hi, List.getElem?_take, if_pos hr, List.getElem?_drop]
theorem bl_of_es {w : World} {v : Value} {bs : List Bk} (h : Es 66 w v (bs.map Bk.cells)) (hok : ∀ b ∈ bs, b.ok) : Bl w v bs := by
  rcases h with ⟨h1, h2⟩ | ⟨b, off, cap, h1, h2, h3, h4, h5⟩
  · exact .inl ⟨h1, by simpa using h2⟩
  · rw [List.length_map] at h1 h2
    refine .inr ⟨b, off, cap, h1, h2, h3, h4, hok, fun j hj => ?_⟩
    obtain ⟨x, hx⟩ : ∃ x, bs[j / 66]? = some x := ⟨_, List.getElem?_eq_getElem (by omega)⟩
    have hlen := Bk.cells_length (hok x (List.mem_of_getElem? hx))
    have hr : j % 66 < 66 := Nat.mod_lt _ (by decide)
    obtain ⟨u, hu⟩ : ∃ u, x.cells[j % 66]? = some u := ⟨_, List.getElem?_eq_getElem (by omega)⟩
    have h6 := h5 (j / 66) x.cells (by rw [List.getElem?_map, hx]; rfl) (j % 66) u hu
    have h7 := bksCells_get hok hx hr
    rw [show 66 * (j / 66) + j % 66 = j by omega] at h7
    rw [h7, hu, ← h6]
    congr 2
    omega
end Go.Proofs.Ytihlbfbplmehiaa
