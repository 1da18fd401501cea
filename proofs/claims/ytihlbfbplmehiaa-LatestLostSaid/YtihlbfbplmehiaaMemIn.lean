/- Loads and stores of blocks that a walk knows whole, inside a fence (a loop over an iterator is walked inside one). -/
import Derived.Test.YtihlbfbplmehiaaMem
import Derived.RangeFuncNested
import Derived.RangeFuncBound
import Derived.RangeFuncCalls
import Derived.RangeFuncLeaves
import Derived.Shelf.Abstract
import Derived.Shelf.RegionOpen
import Derived.OwnWalkIn
import Derived.TacticsInMore
import Derived.LoopNIn
import Derived.LoopIn
namespace Go.Proofs.Ytihlbfbplmehiaa
open Go.RowKit

section
variable {P : Program} {F : Fence} {n : Nat} {ops : Array Oper} {rest : List Oper} {op : Oper} {a : Act} {w : World} {Q : Exit → Act → World → Prop}

theorem ld_agg_in (hgd : op.guard = none) {ty : TypeId} {x : Operand} (ho : op.op = .load ty x) {g o : Nat} (hx : a.eval x = .pointer (some ⟨g, o, none⟩)) {c : List Value} {t : TypeId} (hat : At w g c t) {d : TypeDesc}
    (hu : P.underlying ty = some d) (hd : d.isRow = true) (m : Nat) (hi : (P.info? ty).map (·.size) = some m) (hn : o + m ≤ c.length)
    (h : wpListIn F n P ops Q rest (a.put op.dst (.agg ((c.drop o).take m).toArray)) w) : wpListIn F n P ops Q (op :: rest) a w := by
  refine wpListIn_plain hgd fun K hK' => ?_
  have hr := run_loadVar_mid (P := P) w g o ty ((c.drop o).take m) d (by
    intro j v hv
    rw [hat.cell]
    rw [List.getElem?_take] at hv
    split at hv
    · rwa [List.getElem?_drop] at hv
    · cases hv) hu hd (by rw [hi]; simp; omega)
  unfold Oper.wpIn
  refine ⟨?_, ?_⟩
  · simp [Oper.about, ho]
  · rw [Oper.semAt_plain F _ _ (by rw [ho]; intro c hc'; cases hc')]
    simp only [execOp, ho, hx, Instr.loadAt, Instr.sureAddr, Sem.run_bind, Sem.run_pure, Result.andThen_ok, hr]
    exact hK' _ _ h

theorem st_agg_in (hgd : op.guard = none) {ty : TypeId} {x y : Operand} (ho : op.op = .store ty x y) {g o : Nat} (hx : a.eval x = .pointer (some ⟨g, o, none⟩)) {cs : List Value} (hy : a.eval y = .agg cs.toArray)
    {c : List Value} {t : TypeId} (hat : At w g c t) (m : Nat) (hi : (P.info? ty).map (·.size) = some m) (hcs : cs.length = m) (hn : o + m ≤ c.length) (h1 : ∀ v ∈ cs, v.oneCell' = true)
    (h : ∀ w2, Upd w w2 g (.cells (c.take o ++ cs ++ c.drop (o + m)).toArray t) → wpListIn F n P ops Q rest (a.put op.dst undef) w2) : wpListIn F n P ops Q (op :: rest) a w := by
  subst hcs
  refine wpListIn_plain hgd fun K hK' => ?_
  have hr := run_storeVar_mid (P := P) w g o ty cs.toArray (by
    intro j hj
    rw [hat.cell, hat.frozen]
    have : j < cs.length := by simpa using hj
    exact ⟨by rw [List.getElem?_eq_getElem (by omega)]; rfl, rfl⟩) (by rw [hi]; simp) (all_oneCell_toArray h1)
  unfold Oper.wpIn
  refine ⟨?_, ?_⟩
  · simp [Oper.about, ho]
  · rw [Oper.semAt_plain F _ _ (by rw [ho]; intro c hc'; cases hc')]
    simp only [execOp, ho, hx, hy, Instr.storeAt, Instr.sureAddr, Sem.run_bind, Sem.run_pure, Result.andThen_ok, hr]
    exact hK' _ _ (h _ (setCells_at g t cs o w c hat hn))

/-- one cell is stored -/
theorem st_cell_in (hgd : op.guard = none) {ty : TypeId} {x y : Operand} (ho : op.op = .store ty x y) {g o : Nat} (hx : a.eval x = .pointer (some ⟨g, o, none⟩)) {v : Value} (hy : a.eval y = v) (hv : v.cells = #[v])
    {c : List Value} {t : TypeId} (hat : At w g c t) (hi : (P.info? ty).map (·.size) = some 1) (hn : o < c.length) (h1 : v.oneCell' = true)
    (h : ∀ w2, Upd w w2 g (.cells (c.set o v).toArray t) → wpListIn F n P ops Q rest (a.put op.dst undef) w2) : wpListIn F n P ops Q (op :: rest) a w := by
  refine wpListIn_plain hgd fun K hK' => ?_
  have hr : (storeVar ty ⟨g, o, none⟩ v).run P w = .ok () (w.setCell ⟨g, o, none⟩ v) := by
    cases hq : P.info? ty with
    | none => simp [hq] at hi
    | some i =>
      have hs : i.size = 1 := by simpa [hq] using hi
      have hc := run_storeCells_cells (P := P) g o [v] 0 w (fun j hj => by
        have : j = 0 := by simpa using hj
        subst this
        rw [hat.cell]
        rw [List.getElem?_eq_getElem (by omega)]; rfl) (fun j hj => hat.frozen _) (fun u hu => by simp at hu; subst hu; exact h1)
      simp [storeVar, sizeOf, typeInfo, hq, hv, hs] at hc ⊢
      rw [hc]
      simp [World.setCells]
  unfold Oper.wpIn
  refine ⟨?_, ?_⟩
  · simp [Oper.about, ho]
  · rw [Oper.semAt_plain F _ _ (by rw [ho]; intro c hc'; cases hc')]
    simp only [execOp, ho, hx, hy, Instr.storeAt, Instr.sureAddr, Sem.run_bind, Sem.run_pure, Result.andThen_ok, hr]
    exact hK' _ _ (h _ (Upd.setCell hat v))
end

/-- block b lies as it lay -/
def KeepBlk (b : Nat) (W W' : World) : Prop := W'.heap[b]? = W.heap[b]?
theorem keepBlk_t {b : Nat} {A B C : World} (h : KeepBlk b A B) (k : KeepBlk b B C) : KeepBlk b A C := Eq.trans k h
theorem keepBlk_b {b : Nat} {w : World} (hb : b < w.heap.size) (W : World) (l : Nat) (o o' : Obj) (hl : w.heap.size ≤ l) (_ : W.heap[l]? = some o) (_ : o.isCells = false) (_ : o.isWalk = false) : KeepBlk b W (W.putObj l o') :=
  World.putObj_heap_other (by omega)
theorem keepBlk_below {b : Nat} {W W' : World} (h : Below W.heap.size W W') (hb : b < W.heap.size) : KeepBlk b W W' := h.block b hb
theorem keepBlk_upd {b g : Nat} {W W' : World} {o : Obj} (h : Upd W W' g o) (hb : b ≠ g) : KeepBlk b W W' := h.other b hb
theorem keepBlk_at {b : Nat} {W W' : World} {c : List Value} {t : TypeId} (h : KeepBlk b W W') (ha : At W b c t) : At W' b c t := by unfold At at *; rw [h]; exact ha

theorem keepsOthers_below {W W' : World} (h : Below W.heap.size W W') : KeepsOthers W W' :=
  ⟨h.size, fun k o hk _ => by rw [h.block k (Array.getElem?_eq_some_iff.1 hk).1]; exact hk⟩
theorem keepsOthers_upd {W W' : World} {g : Nat} {c : List Value} {t : TypeId} {o : Obj} (ha : At W g c t) (h : Upd W W' g o) : KeepsOthers W W' :=
  ⟨Nat.le_of_eq h.size.symm, fun k o' hk ho => by
    by_cases e : k = g
    · subst e
      unfold At at ha
      rw [ha] at hk; cases hk; cases ho
    · rw [h.other k e]; exact hk⟩

theorem ownFrom_at {β : Type} (B g : Nat) (t : TypeId) (f : β → List Value) : OwnFrom B (fun s W => At W g (f s) t) := fun s W W' row hs hg hr => by
  have ha : At W g (f s) t := hs
  show At W' g (f s) t
  have hlt := ha.lt
  unfold At at ha ⊢
  rw [hg.block g hlt ?_]
  · exact ha
  · intro e
    obtain ⟨_, o, ho, hc⟩ := hr g e.symm
    rw [ha] at ho; cases ho; cases hc
theorem at_putObj {W : World} {g D : Nat} {c : List Value} {t : TypeId} {o o' : Obj} (ha : At W g c t) (hD : W.heap[D]? = some o) (ho : o.isCells = false) : At (W.putObj D o') g c t := by
  have : g ≠ D := by
    rintro rfl
    unfold At at ha; rw [ha] at hD; cases hD; cases ho
  unfold At at *
  rw [World.putObj_heap_other this]; exact ha
theorem below_putObj {W : World} {n₀ D : Nat} {w : World} {o' : Obj} (hb : Below n₀ w W) (hD : n₀ ≤ D) (hn : n₀ ≤ w.heap.size) : Below n₀ w (W.putObj D o') :=
  hb.grown (grownBy_putObj' W D o') (Nat.le_trans hn hb.size) (fun k e => by cases e; exact hD)
end Go.Proofs.Ytihlbfbplmehiaa
