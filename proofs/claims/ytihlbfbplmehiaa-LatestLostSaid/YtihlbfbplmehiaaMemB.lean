/- Loads, stores and new blocks where no fence stands: twins of Mem's and ScanE's laws; the world behind each is a new name. -/
import Derived.Test.YtihlbfbplmehiaaScanE
import Derived.Great.Ranges
import Derived.Laws.Tables
namespace Go.Proofs.Ytihlbfbplmehiaa
open Go.RowKit

section
variable {P : Program} {ops : Array Oper} {rest : List Oper} {op : Oper} {a : Act} {w : World} {Q : Exit → Act → World → Prop}

/-- an operation that is wanted -/
theorem wpList_on (hw : Region.wanted op (yielded ops a.tmps) = true) (h : ∀ K : Act → World → Prop, (∀ a w, wpList P ops Q rest a w → K a w) → op.wp P a w K Q) : wpList P ops Q (op :: rest) a w :=
  wpList_step fun K hK => by rw [if_pos hw]; exact h K hK
theorem wpList_off (hw : Region.wanted op (yielded ops a.tmps) = false) (h : wpList P ops Q rest (a.put op.dst undef) w) : wpList P ops Q (op :: rest) a w :=
  wpList_step fun K hK => by rw [if_neg (by rw [hw]; decide)]; exact hK _ _ h
/-- an operation that comes to a value -/
theorem op_run (hw : Region.wanted op (yielded ops a.tmps) = true) {v : Value} {w2 : World} (hr : (execOp a.eval op).run P w = .ok (.value v) w2) (h : wpList P ops Q rest (a.put op.dst v) w2) : wpList P ops Q (op :: rest) a w :=
  wpList_on hw fun K hK => by
    unfold Oper.wp
    rw [hr]
    exact hK _ _ h
/-- an aggregate is loaded (of whatever memory) -/
theorem ld_rng (hw : Region.wanted op (yielded ops a.tmps) = true) {ty : TypeId} {x : Operand} (ho : op.op = .load ty x) {b o : Nat} (hx : a.eval x = .pointer (some ⟨b, o, none⟩)) {cs : List Value} (hr : w.rangeAt b o cs) {d : TypeDesc}
    (hu : P.underlying ty = some d) (hd : d.isRow = true) (hi : (P.info? ty).map (·.size) = some cs.length) (h : wpList P ops Q rest (a.put op.dst (.agg cs.toArray)) w) : wpList P ops Q (op :: rest) a w :=
  wpList_on hw fun _ hK => wp_load_mid ty x ho b o hx cs d hr hu hd hi (hK _ _ h)
/-- one cell is loaded -/
theorem ld_one (hw : Region.wanted op (yielded ops a.tmps) = true) {ty : TypeId} {x : Operand} (ho : op.op = .load ty x) {b o : Nat} (hx : a.eval x = .pointer (some ⟨b, o, none⟩)) {v : Value} (hc : w.cell? ⟨b, o, none⟩ = some v) {d : TypeDesc}
    (hu : P.underlying ty = some d) (hd : d.isRow = false) (h : wpList P ops Q rest (a.put op.dst v) w) : wpList P ops Q (op :: rest) a w := by
  refine op_run hw (v := v) ?_ h
  have hr : (loadVar ty ⟨b, o, none⟩).run P w = .ok v w := by
    have hag : (isAgg ty).run P w = .ok false w := by
      unfold isAgg
      cases d <;> simp [TypeDesc.isRow] at hd <;> simp [run_underlying hu]
    simp [loadVar, hag, hc, go_sem]
  unfold execOp
  simp only [ho, hx, Instr.loadAt, Instr.sureAddr, Sem.run_bind, Sem.run_pure, Result.andThen_ok, hr]

/-- one cell is stored -/
theorem st_cell (hw : Region.wanted op (yielded ops a.tmps) = true) {ty : TypeId} {x y : Operand} (ho : op.op = .store ty x y) {g o : Nat} (hx : a.eval x = .pointer (some ⟨g, o, none⟩)) {v : Value} (hy : a.eval y = v) (hv : v.cells = #[v])
    {c : List Value} {t : TypeId} (hat : At w g c t) (hi : (P.info? ty).map (·.size) = some 1) (hn : o < c.length) (h1 : v.oneCell' = true)
    (h : ∀ w2, Upd w w2 g (.cells (c.set o v).toArray t) → wpList P ops Q rest (a.put op.dst undef) w2) : wpList P ops Q (op :: rest) a w := by
  refine wpList_on hw fun K hK' => ?_
  have hr : (storeVar ty ⟨g, o, none⟩ v).run P w = .ok () (w.setCell ⟨g, o, none⟩ v) := by
    cases hq : P.info? ty with
    | none => simp [hq] at hi
    | some i =>
      have hs : i.size = 1 := by simpa [hq] using hi
      have hc := run_storeCells_cells (P := P) g o [v] 0 w (fun j hj => by
        have : j = 0 := by simpa using hj
        subst this
        rw [hat.cell]
        rw [List.getElem?_eq_getElem (by omega)]; rfl) (fun j hj => hat.frozen _) (fun u hu => by simp at hu; subst hu; exact h1)
      simp [storeVar, sizeOf, typeInfo, hq, hv, hs] at hc ⊢
      rw [hc]
      simp [World.setCells]
  unfold Oper.wp
  simp only [execOp, ho, hx, hy, Instr.storeAt, Instr.sureAddr, Sem.run_bind, Sem.run_pure, Result.andThen_ok, hr]
  exact hK' _ _ (h _ (Upd.setCell hat v))

/-- a new variable, with its zero value -/
theorem al_new (hw : Region.wanted op (yielded ops a.tmps) = true) {ty : TypeId} (ho : op.op = .alloc ty) {z : Value} (hz : (zeroValue ty).run P w = .ok z w)
    (h : ∀ w2, New w w2 (.cells z.cells ty) → wpList P ops Q rest (a.put op.dst (.pointer (some ⟨w.heap.size, 0, none⟩))) w2) : wpList P ops Q (op :: rest) a w := by
  refine wpList_on hw fun K hK' => ?_
  unfold Oper.wp
  simp [execOp, ho, Instr.alloc, newVar, newRow, hz]
  exact hK' _ _ (h _ (New.alloc w _))

/-- a new variable, with a value -/
theorem bx_new (hw : Region.wanted op (yielded ops a.tmps) = true) {ty : TypeId} {x : Operand} (ho : op.op = .box ty x) {v : Value} (hx : a.eval x = v)
    (h : ∀ w2, New w w2 (.cells v.cells ty) → wpList P ops Q rest (a.put op.dst (.pointer (some ⟨w.heap.size, 0, none⟩))) w2) : wpList P ops Q (op :: rest) a w :=
  op_run hw (by simp [execOp, ho, hx, Instr.box, newVar, newRow]) (h _ (New.alloc w _))

/-- a slice literal of one struct -/
theorem bs_one (hw : Region.wanted op (yielded ops a.tmps) = true) {t e : TypeId} {x : Operand} (ho : op.op = .buildSlice t 1 #[(0, x)]) {cs : List Value} (hx : a.eval x = .agg cs.toArray) (hu : P.underlying t = some (.slice e)) (m : Nat) (hm : cs.length = m) (hi : (P.info? e).map (·.size) = some m) (hz : ((P.info? e).bind (·.zero)).isSome = true) (hpos : 0 < m) (hsmall : m ≤ 1000)
    (h : ∀ w2, New w w2 (.cells cs.toArray e) → wpList P ops Q rest (a.put op.dst (.slice (some ⟨w.heap.size, 0, none⟩) 1 1)) w2) : wpList P ops Q (op :: rest) a w := by
  refine wpList_on hw fun K hK' => ?_
  unfold Oper.wp
  have hr := run_buildOne (P := P) (w := w) hu m hm hi hz hpos hsmall
  simp [execOp, ho, hx, hr, Result.andThen]
  exact hK' _ _ (h _ (New.alloc w _))

/-- a struct literal -/
theorem bd_run (hw : Region.wanted op (yielded ops a.tmps) = true) {ty : TypeId} {parts : Array (Nat × Operand)} (ho : op.op = .build ty parts) {vs : List (Nat × Value)} (hvs : parts.toList.map (fun x => (x.1, a.eval x.2)) = vs) {cells : Array Value} (hb : P.built ty vs = some cells)
    (h : wpList P ops Q rest (a.put op.dst (.agg cells)) w) : wpList P ops Q (op :: rest) a w := by
  refine wpList_on hw fun K hK' => ?_
  unfold Oper.wp
  subst hvs
  have hr := run_build w ty (parts.map fun x => (x.1, a.eval x.2)) cells (by rw [Array.toList_map]; exact hb)
  simp only [execOp, ho, Sem.run_bind, hr, Result.andThen_ok, Sem.run_pure]
  exact hK' _ _ h

/-- an element of an array that is a value, where it is a struct -/
theorem ix_agg (hw : Region.wanted op (yielded ops a.tmps) = true) {ty : TypeId} {x y : Operand} (ho : op.op = .index ty x y) {cs : List Value} (hx : a.eval x = .agg cs.toArray) {i : Nat} {k : IntKind} (hy : a.eval y = .int k i) {n : Nat} {e : TypeId} {d : TypeDesc} (hu : P.underlying ty = some (.array n e)) (he : P.underlying e = some d) (hd : d.isRow = true) (hi : i < n) (m : Nat) (hm : (P.info? e).map (·.size) = some m)
    (h : wpList P ops Q rest (a.put op.dst (.agg ((cs.drop (i * m)).take m).toArray)) w) : wpList P ops Q (op :: rest) a w := by
  refine wpList_on hw fun K hK' => ?_
  unfold Oper.wp
  have hr : (Instr.index ty (.agg cs.toArray) (.int k i)).run P w = .ok (.agg ((cs.drop (i * m)).take m).toArray) w := by
    cases hq : P.info? e with
    | none => simp [hq] at hm
    | some ie =>
      have hs : ie.size = m := by simpa [hq] using hm
      have hag : (isAgg e).run P w = .ok true w := by
        unfold isAgg
        cases d <;> simp [TypeDesc.isRow] at hd <;> simp [run_underlying he]
      have hin : (0 : Int) ≤ (i : Int) ∧ (i : Int) < (n : Int) := by omega
      have hsz : (sizeOf e).run P w = .ok m w := by simp [sizeOf, typeInfo, hq, hs]
      simp only [Instr.index, asIntOf, run_underlying hu, Sem.run_bind, Sem.run_pure, Result.andThen_ok, hin, if_true, and_self, part, hag, hsz, Int.toNat_natCast]
      congr 2
      rw [List.extract_toArray, List.extract_eq_take_drop]
      congr 2
      omega
  simp only [execOp, ho, hx, hy, Sem.run_bind, hr, Result.andThen_ok, Sem.run_pure]
  exact hK' _ _ h

/-- one element more, that lies in a block of its own -/
theorem ap_one (hw : Region.wanted op (yielded ops a.tmps) = true) (s x : Operand) (t : TypeId) (ho : op.op = .call { callee := .builtin .append, args := #[s, x], argTypes := #[t, t] })
    {base : Nat} {e : TypeId} {size bytes : Nat} (ht : P.underlying t = some (.slice e)) (hi : (P.info? e).map (·.size) = some size) (hby : (P.info? e).map (·.bytes) = some bytes) (hz : ((P.info? e).bind (·.zero)).map (·.cells.size) = some size) (hsz : 0 < size)
    {v : Value} {n : Nat} {xs : List Value} (hs : a.eval s = v) (hown : w.ownsRow base e size v n xs) {g : Nat} {cs : List Value} (hx : a.eval x = .slice (some ⟨g, 0, none⟩) 1 1) (hat : At w g cs e) (hl : cs.length = size) (h1 : ∀ u ∈ cs, u.oneCell' = true)
    (h63 : n + 1 ≤ maxLen) (hbytes : (n + 1) * bytes ≤ 140737488355328) (hbase : base ≤ w.heap.size)
    (h : ∀ v' w', w'.ownsRow base e size v' (n + 1) (xs ++ cs) → w.grownBy w' v.ownBlock → wpList P ops Q rest (a.put op.dst v') w') : wpList P ops Q (op :: rest) a w := by
  cases hie : P.info? e with
  | none => rw [hie] at hi; cases hi
  | some ie =>
    simp only [hie, Option.map_some, Option.some.injEq, Option.bind_some] at hi hby hz
    cases hzz : ie.zero with
    | none => rw [hzz] at hz; cases hz
    | some z =>
      rw [hzz] at hz
      simp only [Option.map_some, Option.some.injEq] at hz
      exact wpList_on hw fun _ hK => wp_append_own w s x t ho base e ie z size bytes ht hie hzz hi hby hz hsz v n xs hs hown ⟨g, 0, none⟩ 1 1 cs hx (by omega) (fun j u hu => by rw [add0, hat.cell]; exact hu) h1 h63 hbytes hbase fun v' w' h2 h3 _ => hK _ _ (h v' w' h2 h3)

/-- some elements more, that lie somewhere -/
theorem ap_src (hw : Region.wanted op (yielded ops a.tmps) = true) (s x : Operand) (t : TypeId) (ho : op.op = .call { callee := .builtin .append, args := #[s, x], argTypes := #[t, t] })
    {base : Nat} {e : TypeId} {size bytes : Nat} (ht : P.underlying t = some (.slice e)) (hi : (P.info? e).map (·.size) = some size) (hby : (P.info? e).map (·.bytes) = some bytes) (hz : ((P.info? e).bind (·.zero)).map (·.cells.size) = some size) (hsz : 0 < size)
    {v : Value} {n : Nat} {xs : List Value} (hs : a.eval s = v) (hown : w.ownsRow base e size v n xs) {b o m c : Nat} {cs : List Value} (hx : a.eval x = .slice (some ⟨b, o, none⟩) m c) (hr : w.rangeAt b o cs) (hl : cs.length = m * size) (h1 : ∀ u ∈ cs, u.oneCell' = true)
    (h63 : n + m ≤ maxLen) (hbytes : (n + m) * bytes ≤ 140737488355328) (hbase : base ≤ w.heap.size)
    (h : ∀ v' w', w'.ownsRow base e size v' (n + m) (xs ++ cs) → w.grownBy w' v.ownBlock → wpList P ops Q rest (a.put op.dst v') w') : wpList P ops Q (op :: rest) a w := by
  cases hie : P.info? e with
  | none => rw [hie] at hi; cases hi
  | some ie =>
    simp only [hie, Option.map_some, Option.some.injEq, Option.bind_some] at hi hby hz
    cases hzz : ie.zero with
    | none => rw [hzz] at hz; cases hz
    | some z =>
      rw [hzz] at hz
      simp only [Option.map_some, Option.some.injEq] at hz
      exact wpList_on hw fun _ hK => wp_append_own w s x t ho base e ie z size bytes ht hie hzz hi hby hz hsz v n xs hs hown ⟨b, o, none⟩ m c cs hx hl (fun j u hu => by rw [addr_add]; exact hr j u hu) h1 h63 hbytes hbase fun v' w' h2 h3 _ => hK _ _ (h v' w' h2 h3)
end

theorem below_append {w W W2 : World} {e : TypeId} {s : Nat} {o : Value} {k : Nat} {xs : List Value} (h : W.ownsRow w.heap.size e s o k xs) (hb : Below w.heap.size w W) (hg : W.grownBy W2 o.ownBlock) : Below w.heap.size w W2 :=
  hb.grown hg hb.size (fun j e => own_base h j e)
/-- a slice of elements of s cells each -/
def Es (s : Nat) (w : World) (v : Value) (l : List (List Value)) : Prop :=
  (v = .slice none 0 0 ∧ l = []) ∨ ∃ b off cap, v = .slice (some ⟨b, off, none⟩) l.length cap ∧ l.length ≤ cap ∧ cap ≤ 9223372036854775807 ∧ b < w.heap.size ∧ ∀ (i : Nat) x, l[i]? = some x → w.rangeAt b (off + i * s) x
theorem Es.nil (s : Nat) (w : World) : Es s w (.slice none 0 0) [] := .inl ⟨rfl, rfl⟩
theorem Es.shape {s : Nat} {w : World} {v : Value} {l : List (List Value)} (h : Es s w v l) : ∃ a c, v = .slice a l.length c := by
  rcases h with ⟨rfl, rfl⟩ | ⟨b, off, cap, h1, _⟩
  · exact ⟨none, 0, rfl⟩
  · exact ⟨_, _, h1⟩
theorem Es.below {s : Nat} {w w' : World} {v : Value} {l : List (List Value)} (h : Es s w v l) (hb : Below w.heap.size w w') : Es s w' v l := by
  rcases h with h | ⟨b, off, cap, h1, h2, h3, h4, h5⟩
  · exact .inl h
  · exact .inr ⟨b, off, cap, h1, h2, h3, Nat.lt_of_lt_of_le h4 hb.size, fun i x hx j u hu => by rw [hb.cell (p := ⟨b, off + i * s + j, none⟩) h4]; exact h5 i x hx j u hu⟩
theorem Es.elem {s : Nat} {w : World} {v : Value} {l : List (List Value)} (h : Es s w v l) {i : Nat} {x : List Value} (hi : l[i]? = some x) : ∃ b off cap, v = .slice (some ⟨b, off, none⟩) l.length cap ∧ b < w.heap.size ∧ ∀ w', Below w.heap.size w w' → w'.rangeAt b (off + i * s) x := by
  rcases h with ⟨rfl, rfl⟩ | ⟨b, off, cap, h1, h2, h3, h4, h5⟩
  · cases hi
  · exact ⟨b, off, cap, h1, h4, fun w' hb j u hu => by rw [hb.cell (p := ⟨b, off + i * s + j, none⟩) h4]; exact h5 i x hi j u hu⟩
/-- what a round of a loop that fills a slice carries along: the slice, and what was made since the round began -/
structure Rn (w wr W : World) (e : TypeId) (s : Nat) (o : Value) (k : Nat) (xs : List Value) : Prop where
  own : W.ownsRow w.heap.size e s o k xs
  below : Below w.heap.size w W
  lt : ∀ r, o.ownBlock = some r → r < wr.heap.size
  base : w.heap.size ≤ wr.heap.size
  size : wr.heap.size ≤ W.heap.size
theorem Rn.start {w wr : World} {e : TypeId} {s : Nat} {o : Value} {k : Nat} {xs : List Value} (h : wr.ownsRow w.heap.size e s o k xs) (hb : Below w.heap.size w wr) : Rn w wr wr e s o k xs :=
  ⟨h, hb, fun r hr => by obtain ⟨_, cur, hc⟩ := own_block h hr; exact (Array.getElem?_eq_some_iff.1 hc).1, hb.size, Nat.le_refl _⟩
theorem Rn.call {w wr W W2 : World} {e : TypeId} {s : Nat} {o : Value} {k : Nat} {xs : List Value} (h : Rn w wr W e s o k xs) (hb : Below W.heap.size W W2) : Rn w wr W2 e s o k xs :=
  ⟨own_below h.own hb, h.below.trans (hb.mono h.below.size), h.lt, h.base, Nat.le_trans h.size hb.size⟩
theorem Rn.new {w wr W W2 : World} {e : TypeId} {s : Nat} {o : Value} {k : Nat} {xs : List Value} (h : Rn w wr W e s o k xs) {ob : Obj} (hn : New W W2 ob) : Rn w wr W2 e s o k xs := h.call (hn.below (Nat.le_refl _))
theorem Rn.upd {w wr W W2 : World} {e : TypeId} {s : Nat} {o : Value} {k g : Nat} {xs : List Value} (h : Rn w wr W e s o k xs) {ob : Obj} (hu : Upd W W2 g ob) (hg : wr.heap.size ≤ g) : Rn w wr W2 e s o k xs :=
  ⟨own_upd h.own hu (fun e => by have := h.lt g e; omega), h.below.trans (hu.below (Nat.le_trans h.base hg)), h.lt, h.base, by rw [hu.size]; exact h.size⟩
end Go.Proofs.Ytihlbfbplmehiaa
