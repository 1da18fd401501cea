/- Blocks of memory that a walk knows whole: loads and stores of them; the world behind a store is a new name, of which the blocks are known. -/
import Derived.Test.YtihlbfbplmehiaaBase
import Derived.Deep.MidRow
namespace Go.Proofs.Ytihlbfbplmehiaa
open Go.RowKit

/-- block g has just these cells, and may be written -/
def At (w : World) (g : Nat) (c : List Value) (t : TypeId) : Prop := w.heap[g]? = some (.cells c.toArray t (0, 0))

theorem At.lt {w : World} {g : Nat} {c : List Value} {t : TypeId} (h : At w g c t) : g < w.heap.size := by
  unfold At at h; rw [Array.getElem?_eq_some_iff] at h; exact h.1
theorem At.cell {w : World} {g : Nat} {c : List Value} {t : TypeId} (h : At w g c t) (i : Nat) : w.cell? ⟨g, i, none⟩ = c[i]? := by
  unfold At at h; simp [World.cell?, h]
theorem At.frozen {w : World} {g : Nat} {c : List Value} {t : TypeId} (h : At w g c t) (i : Nat) : w.frozen? ⟨g, i, none⟩ = false := by
  unfold At at h; simp [World.frozen?, h]
theorem At.below {w w' : World} {g : Nat} {c : List Value} {t : TypeId} {B : Nat} (h : At w g c t) (hb : Below B w w') (hg : g < B) : At w' g c t := by
  unfold At at *; rw [hb.block g hg]; exact h
theorem At.of_below {w w' : World} {g : Nat} {c : List Value} {t : TypeId} (h : At w g c t) (hb : Below w.heap.size w w') : At w' g c t := h.below hb h.lt

theorem At.drewN {w : World} {g : Nat} {c : List Value} {t : TypeId} (h : At w g c t) (n : Nat) : At (w.drewN n) g c t := h
theorem At.drew {w : World} {g : Nat} {c : List Value} {t : TypeId} (h : At w g c t) : At w.drew g c t := h
theorem At.heap {w : World} {g : Nat} {c : List Value} {t : TypeId} (h : At w g c t) : w.heap[g]? = some (.cells c.toArray t (0, 0)) := h

/-- w2 is w with another object in block g -/
structure Upd (w w2 : World) (g : Nat) (o : Obj) : Prop where
  os : w2.os = w.os
  tape : w2.tape = w.tape
  output : w2.output = w.output
  size : w2.heap.size = w.heap.size
  here : w2.heap[g]? = some o
  other : ∀ k, k ≠ g → w2.heap[k]? = w.heap[k]?

theorem Upd.below {w w2 : World} {g : Nat} {o : Obj} {B : Nat} (h : Upd w w2 g o) (hg : B ≤ g) : Below B w w2 :=
  ⟨h.os, h.tape, h.output, Nat.le_of_eq h.size.symm, fun k hk => h.other k (by omega)⟩
theorem Upd.at {w w2 : World} {g g' : Nat} {o : Obj} {c : List Value} {t : TypeId} (h : Upd w w2 g o) (ha : At w g' c t) (hg : g' ≠ g) : At w2 g' c t := by
  unfold At at *; rw [h.other g' hg]; exact ha
theorem Upd.to {w w2 : World} {g : Nat} {c : List Value} {t : TypeId} (h : Upd w w2 g (.cells c.toArray t)) : At w2 g c t := h.here

/-- w2 is w but for block g -/
structure Same (g : Nat) (w w2 : World) : Prop where
  os : w2.os = w.os
  tape : w2.tape = w.tape
  output : w2.output = w.output
  size : w2.heap.size = w.heap.size
  other : ∀ k, k ≠ g → w2.heap[k]? = w.heap[k]?

theorem Same.refl (g : Nat) (w : World) : Same g w w := ⟨rfl, rfl, rfl, rfl, fun _ _ => rfl⟩
theorem Same.trans {g : Nat} {a b c : World} (h : Same g a b) (k : Same g b c) : Same g a c := ⟨k.os.trans h.os, k.tape.trans h.tape, k.output.trans h.output, k.size.trans h.size, fun i hi => (k.other i hi).trans (h.other i hi)⟩
theorem Same.drew {g : Nat} {a b : World} (h : Same g a b) : Same g a b.drew := ⟨h.os, h.tape, h.output, h.size, h.other⟩
theorem Same.drewN {g : Nat} {a b : World} (h : Same g a b) (n : Nat) : Same g a (b.drewN n) := ⟨h.os, h.tape, h.output, h.size, h.other⟩
theorem Upd.same {w w2 : World} {g : Nat} {o : Obj} (h : Upd w w2 g o) : Same g w w2 := ⟨h.os, h.tape, h.output, h.size, h.other⟩
theorem Same.below {g B : Nat} {w w2 : World} (h : Same g w w2) (hg : B ≤ g) : Below B w w2 :=
  ⟨h.os, h.tape, h.output, Nat.le_of_eq h.size.symm, fun k hk => h.other k (by omega)⟩
theorem Same.at {g g' : Nat} {w w2 : World} {c : List Value} {t : TypeId} (h : Same g w w2) (ha : At w g' c t) (hg : g' ≠ g) : At w2 g' c t := by
  unfold At at *; rw [h.other g' hg]; exact ha

/-- w2 is w with a new object -/
structure New (w w2 : World) (o : Obj) : Prop where
  os : w2.os = w.os
  tape : w2.tape = w.tape
  output : w2.output = w.output
  size : w2.heap.size = w.heap.size + 1
  here : w2.heap[w.heap.size]? = some o
  other : ∀ k, k < w.heap.size → w2.heap[k]? = w.heap[k]?

theorem New.below {w w2 : World} {o : Obj} {B : Nat} (h : New w w2 o) (hB : B ≤ w.heap.size) : Below B w w2 :=
  ⟨h.os, h.tape, h.output, by have := h.size; omega, fun k hk => h.other k (by omega)⟩
theorem New.at {w w2 : World} {g' : Nat} {o : Obj} {c : List Value} {t : TypeId} (h : New w w2 o) (ha : At w g' c t) : At w2 g' c t := by
  have := ha.lt
  unfold At at *; rw [h.other g' this]; exact ha
theorem New.to {w w2 : World} {c : List Value} {t : TypeId} (h : New w w2 (.cells c.toArray t)) : At w2 w.heap.size c t := h.here
theorem New.alloc (w : World) (o : Obj) : New w (w.alloc o) o :=
  ⟨rfl, rfl, rfl, by simp, hp_new rfl, fun k hk => hp_old hk rfl⟩

theorem Upd.setCell {w : World} {g o : Nat} {c : List Value} {t : TypeId} (h : At w g c t) (v : Value) : Upd w (w.setCell ⟨g, o, none⟩ v) g (.cells (c.set o v).toArray t) := by
  refine ⟨rfl, rfl, rfl, by simp [World.setCell], ?_, fun k hk => heap_setCell_other w ⟨g, o, none⟩ k v hk⟩
  rw [heap_setCell_same w g o c.toArray t v h]
  simp

theorem setCells_at (g : Nat) (t : TypeId) : ∀ (vs : List Value) (o : Nat) (w : World) (c : List Value), At w g c t → o + vs.length ≤ c.length → Upd w (w.setCells g o vs) g (.cells (c.take o ++ vs ++ c.drop (o + vs.length)).toArray t)
  | [], o, w, c, h, hl => by
    rw [World.setCells]
    exact ⟨rfl, rfl, rfl, rfl, by simpa [At] using h, fun _ _ => rfl⟩
  | v :: vs, o, w, c, h, hl => by
    rw [World.setCells]
    have h1 := Upd.setCell (o := o) h v
    simp only [List.length_cons] at hl
    have h2 := setCells_at g t vs (o + 1) _ _ h1.to (by simp; omega)
    refine ⟨h2.os.trans h1.os, h2.tape.trans h1.tape, h2.output.trans h1.output, h2.size.trans h1.size, ?_, fun k hk => (h2.other k hk).trans (h1.other k hk)⟩
    rw [h2.here]
    congr 2
    have e1 : (c.set o v).take (o + 1) = c.take o ++ [v] := by
      rw [List.take_add_one, List.take_set_of_le (Nat.le_refl o), List.getElem?_set_self (by omega)]
      rfl
    have e2 : (c.set o v).drop (o + 1 + vs.length) = c.drop (o + (vs.length + 1)) := by
      rw [List.drop_set_of_lt (by omega)]; congr 1; omega
    simp only [e1, e2, List.length_cons, List.append_assoc, List.cons_append, List.nil_append]

section
variable {P : Program} {ops : Array Oper} {rest : List Oper} {op : Oper} {a : Act} {w : World} {Q : Exit → Act → World → Prop}

/-- an aggregate is loaded -/
theorem ld_agg (hgd : op.guard = none) {ty : TypeId} {x : Operand} (ho : op.op = .load ty x) {g o : Nat} (hx : a.eval x = .pointer (some ⟨g, o, none⟩)) {c : List Value} {t : TypeId} (hat : At w g c t) {d : TypeDesc}
    (hu : P.underlying ty = some d) (hd : d.isRow = true) (n : Nat) (hi : (P.info? ty).map (·.size) = some n) (hn : o + n ≤ c.length)
    (h : wpList P ops Q rest (a.put op.dst (.agg ((c.drop o).take n).toArray)) w) : wpList P ops Q (op :: rest) a w := by
  refine wpList_load_mid hgd ty x ho g o hx ((c.drop o).take n) d ?_ hu hd (by rw [hi]; simp; omega) h
  intro j v hv
  rw [hat.cell]
  rw [List.getElem?_take] at hv
  split at hv
  · rwa [List.getElem?_drop] at hv
  · cases hv

/-- an aggregate is stored -/
theorem st_agg (hgd : op.guard = none) {ty : TypeId} {x y : Operand} (ho : op.op = .store ty x y) {g o : Nat} (hx : a.eval x = .pointer (some ⟨g, o, none⟩)) {cs : List Value} (hy : a.eval y = .agg cs.toArray)
    {c : List Value} {t : TypeId} (hat : At w g c t) (n : Nat) (hi : (P.info? ty).map (·.size) = some n) (hcs : cs.length = n) (hn : o + n ≤ c.length) (h1 : ∀ v ∈ cs, v.oneCell' = true)
    (h : ∀ w2, Upd w w2 g (.cells (c.take o ++ cs ++ c.drop (o + n)).toArray t) → wpList P ops Q rest (a.put op.dst undef) w2) : wpList P ops Q (op :: rest) a w := by
  subst hcs
  refine wpList_store_mid hgd ty x y ho g o cs.toArray hx hy ?_ (by rw [hi]; simp) (all_oneCell_toArray h1) (h _ (setCells_at g t cs o w c hat hn))
  intro j hj
  rw [hat.cell, hat.frozen]
  have : j < cs.length := by simpa using hj
  exact ⟨by rw [List.getElem?_eq_getElem (by omega)]; rfl, rfl⟩

/-- the results of a function: a struct in a cell, and a slot -/
theorem res_cell_tmp {fn : Func} {p q : Tmp} {ty : TypeId} (h : fn.results = #[.cell p ty, .tmp q]) (tmps : Array Value) {g : Nat} {c : List Value} {t : TypeId} {d : TypeDesc}
    (hp : tmps.getD p undef = .pointer (some ⟨g, 0, none⟩)) (hg : At w g c t) (hu : P.underlying ty = some d) (hd : d.isRow = true) (n : Nat) (hi : (P.info? ty).map (·.size) = some n) (hn : c.length = n) :
    (results fn tmps).run P w = .ok (.tuple #[.agg c.toArray, tmps.getD q undef]) w := by
  have hp' : tmps[p]?.getD undef = .pointer (some ⟨g, 0, none⟩) := by simpa using hp
  have := run_loadVar_row (P := P) w g t ty c.toArray (0, 0) d hg.heap hu (by cases d <;> simp_all) (by rw [hi, ← hn]; simp)
  simp [results, h, hp', asAddr, this]

/-- the result of a function: a struct in a cell -/
theorem res_cell {fn : Func} {p : Tmp} {ty : TypeId} (h : fn.results = #[.cell p ty]) (tmps : Array Value) {g : Nat} {c : List Value} {t : TypeId} {d : TypeDesc}
    (hp : tmps.getD p undef = .pointer (some ⟨g, 0, none⟩)) (hg : At w g c t) (hu : P.underlying ty = some d) (hd : d.isRow = true) (n : Nat) (hi : (P.info? ty).map (·.size) = some n) (hn : c.length = n) :
    (results fn tmps).run P w = .ok (.agg c.toArray) w :=
  results_cell_row h tmps w g t c.toArray (0, 0) d hp hg.heap hu (by cases d <;> simp_all) (by rw [hi, ← hn]; simp)

end
end Go.Proofs.Ytihlbfbplmehiaa
