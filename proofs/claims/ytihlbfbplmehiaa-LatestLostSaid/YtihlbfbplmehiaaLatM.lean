/- Layer 7: the statements' arguments; places compared. -/
import Derived.Test.YtihlbfbplmehiaaLatL
import Derived.Deep.RegionWith
namespace Go.Proofs.Ytihlbfbplmehiaa
open Go.ChangeShapes Go.WideShapes Go.ChangeAt Go.RowKit Go.Shelf

/-- a place of any numbers -/
structure Pz.ok (z : Pz) : Prop where
  b : -9223372036854775808 ≤ z.b ∧ z.b ≤ 9223372036854775807
  k : -9223372036854775808 ≤ z.k ∧ z.k ≤ 9223372036854775807
  p : z.p.ok
theorem Pz.zero_ok : Pz.zero.ok := ⟨by decide, by decide, by simp [Pz.zero, Pg.zero, Pg.ok, u32]⟩
theorem Pz.fit {x : Pz} (h : x.ok) : Fit plKinds x.cells :=
  ⟨⟨rfl, h.b.1, h.b.2⟩, ⟨rfl, h.k.1, h.k.2⟩, Pg.fit h.p⟩
theorem Pz.cells_eq {x y : Pz} (h : x.cells = y.cells) : x = y := by
  obtain ⟨b, k, p⟩ := x
  obtain ⟨b', k', p'⟩ := y
  simp only [Pz.cells, List.cons_append, List.nil_append, List.cons.injEq, Value.int.injEq, true_and] at h
  obtain ⟨h1, h2, h3⟩ := h
  have := Pg.cells_eq h3
  subst_vars; rfl
theorem fit_pz {cs : List Value} (h : Fit plKinds cs) : ∃ z : Pz, cs = z.cells ∧ z.ok := by
  obtain ⟨h1, h2⟩ := fit_append h
  obtain ⟨p, hp, hok⟩ := fit_page h2
  have hl := fit_length h
  match cs, h1, hp with
  | .int _ b :: .int _ k :: rest, h1, hp =>
    obtain ⟨⟨rfl, b1, b2⟩, ⟨rfl, k1, k2⟩, _⟩ := h1
    exact ⟨⟨b, k, p⟩, by simp only [Pz.cells, List.cons_append, List.nil_append]; rw [← hp]; rfl, ⟨b1, b2⟩, ⟨k1, k2⟩, hok⟩
theorem fit_pzs : ∀ (l : List (List Value)), (∀ x ∈ l, Fit plKinds x) → ∃ zs : List Pz, l = zs.map Pz.cells ∧ ∀ z ∈ zs, z.ok
  | [], _ => ⟨[], rfl, by simp⟩
  | x :: l, h => by
    obtain ⟨b, rfl, hb⟩ := fit_pz (h x List.mem_cons_self)
    obtain ⟨bs, rfl, hbs⟩ := fit_pzs l fun y hy => h y (List.mem_cons_of_mem _ hy)
    exact ⟨b :: bs, rfl, fun y hy => (List.mem_cons.1 hy).elim (fun e => e ▸ hb) (hbs y)⟩
theorem pz_eql_ref (x y : Pz) (h : x.ok) (h' : y.ok) (w : World) : (binOp .eql 36 (.agg x.cells.toArray) (.agg y.cells.toArray)).run Try.prog w = .ok (.bool (decide (x = y))) w :=
  flat_binop_eql (m := 6) (D := 6) (by omega) (by kernel_rfl) (ks := plKinds) (by kernel_rfl) (by kernel_rfl) (Pz.fit h) (Pz.fit h') _ (by rw [decide_eq_true_eq]; exact ⟨fun e => by rw [e], Pz.cells_eq⟩) w
theorem pz_eql_lat (x y : Pz) (h : x.ok) (h' : y.ok) (w : World) : (binOp .eql 29 (.agg x.cells.toArray) (.agg y.cells.toArray)).run Try.prog w = .ok (.bool (decide (x = y))) w :=
  flat_binop_eql (m := 6) (D := 6) (by omega) (by kernel_rfl) (ks := plKinds) (by kernel_rfl) (by kernel_rfl) (Pz.fit h) (Pz.fit h') _ (by rw [decide_eq_true_eq]; exact ⟨fun e => by rw [e], Pz.cells_eq⟩) w
theorem fz_ok {zs : List Pz} (h : ∀ z ∈ zs, z.ok) (s : Int) : (fz zs s).1.ok := by
  unfold fz
  split
  · rename_i x hx; exact h x (List.mem_of_find?_eq_some hx)
  · exact Pz.zero_ok
theorem es_one {w : World} {g : Nat} {z : Pz} {e : TypeId} (h : At w g z.cells e) : Es 9 w (.slice (some ⟨g, 0, none⟩) 1 1) ([z].map Pz.cells) := by
  refine .inr ⟨g, 0, 1, rfl, by simp, by decide, h.lt, ?_⟩
  intro i x hx j u hu
  match i, hx with
  | 0, hx =>
    simp only [List.map_cons, List.getElem?_cons_zero, Option.some.injEq] at hx
    subst hx
    rw [h.cell]; simpa using hu
theorem Es.keep9 {w w' : World} {v : Value} {l : List (List Value)} (h : Es 9 w v l) (hb : Below w.heap.size w w') : Es 9 w' v l := h.below hb
end Go.Proofs.Ytihlbfbplmehiaa
