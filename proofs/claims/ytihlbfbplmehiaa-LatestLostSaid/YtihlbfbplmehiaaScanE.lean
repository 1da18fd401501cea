/- Walks of package scan: Words. -/
import Derived.Test.YtihlbfbplmehiaaScanD
import Derived.Great.BuildSlice
import Derived.Maps.OwnIn
namespace Go.Proofs.Ytihlbfbplmehiaa
open Go.RowKit Go.Shelf
set_option maxHeartbeats 4000000
attribute [local go_sem] Oper.semAt_some

section
variable {P : Program} {F : Fence} {n : Nat} {ops : Array Oper} {rest : List Oper} {op : Oper} {a : Act} {w : World} {Q : Exit → Act → World → Prop}
/-- a slice literal of one struct -/
theorem run_buildOne {t e : TypeId} {cs : List Value} (hu : P.underlying t = some (.slice e)) (m : Nat) (hm : cs.length = m) (hi : (P.info? e).map (·.size) = some m) (hz : ((P.info? e).bind (·.zero)).isSome = true) (hpos : 0 < m) (hsmall : m ≤ 1000) :
    (Instr.buildSlice t 1 #[(0, .agg cs.toArray)]).run P w = .ok (.slice (some ⟨w.heap.size, 0, none⟩) 1 1) (w.alloc (.cells cs.toArray e)) := by
  cases hie : P.info? e with
  | none => rw [hie] at hi; cases hi
  | some ie =>
    simp only [hie, Option.map_some, Option.some.injEq, Option.bind_some] at hi hz
    obtain ⟨z, hzz⟩ := Option.isSome_iff_exists.1 hz
    refine run_buildSlice w t e 1 _ _ ie z hu hie hzz (by rw [hi]; omega) (by rw [hi]; omega) ?_
    have h := Great.fill_whole (s := ie.size) (by omega) [Value.agg cs.toArray] ((Array.range (1 * ie.size)).map (z.cells[· % z.cells.size]!)) (by intro v hv; simp only [List.mem_cons, List.not_mem_nil, or_false] at hv; subst hv; simp [Value.cells, hm, hi]) (by simp)
    simpa [Value.cells] using h

theorem bs_one_in (hgd : op.guard = none) {t e : TypeId} {x : Operand} (ho : op.op = .buildSlice t 1 #[(0, x)]) {cs : List Value} (hx : a.eval x = .agg cs.toArray) (hu : P.underlying t = some (.slice e)) (m : Nat) (hm : cs.length = m) (hi : (P.info? e).map (·.size) = some m) (hz : ((P.info? e).bind (·.zero)).isSome = true) (hpos : 0 < m) (hsmall : m ≤ 1000)
    (h : ∀ w2, New w w2 (.cells cs.toArray e) → wpListIn F n P ops Q rest (a.put op.dst (.slice (some ⟨w.heap.size, 0, none⟩) 1 1)) w2) : wpListIn F n P ops Q (op :: rest) a w := by
  refine wpListIn_plain hgd fun K hK' => ?_
  unfold Oper.wpIn
  refine ⟨?_, ?_⟩
  · simp [Oper.about, ho]
  · rw [Oper.semAt_plain F _ _ (by rw [ho]; intro c hc'; cases hc')]
    have hr := run_buildOne (P := P) (w := w) hu m hm hi hz hpos hsmall
    simp [execOp, ho, hx, hr, Result.andThen]
    exact hK' _ _ (h _ (New.alloc w _))

/-- an operation that is wanted and comes to a value -/
theorem wpOpIn_run {o : Oper} {K : Act → World → Prop} {Y : Nat → Option Bool} {R : Prop} (hw : Region.wanted o Y = true) (hab : o.about P w a.eval = none) (hd : ∀ c, o.op ≠ .defer c) {v : Value} {w' : World}
    (hr : (execOp a.eval o).run P w = .ok (.value v) w') (h : K (a.put o.dst v) w') : if Region.wanted o Y = true then Oper.wpIn F n P o a w K Q else R := by
  rw [if_pos hw]
  unfold Oper.wpIn
  refine ⟨(fun f hf => by rw [hab] at hf; cases hf), ?_⟩
  rw [Oper.semAt_plain F _ _ hd, hr]
  exact h
theorem wpOpIn_skip {o : Oper} {K : Act → World → Prop} {Y : Nat → Option Bool} {R : Prop} (hw : Region.wanted o Y = true) (hab : o.about P w a.eval = none) (hd : ∀ c, o.op ≠ .defer c) {w' : World}
    (hr : (execOp a.eval o).run P w = .ok .skip w') (h : K (a.put o.dst undef) w') : if Region.wanted o Y = true then Oper.wpIn F n P o a w K Q else R := by
  rw [if_pos hw]
  unfold Oper.wpIn
  refine ⟨(fun f hf => by rw [hab] at hf; cases hf), ?_⟩
  rw [Oper.semAt_plain F _ _ hd, hr]
  exact h

theorem bs_step {K : Act → World → Prop} {Y : Nat → Option Bool} {R : Prop} (hw : Region.wanted op Y = true) {t e : TypeId} {x : Operand} (ho : op.op = .buildSlice t 1 #[(0, x)]) {cs : List Value} (hx : a.eval x = .agg cs.toArray) (hu : P.underlying t = some (.slice e)) (m : Nat) (hm : cs.length = m) (hie : (P.info? e).map (·.size) = some m) (hz : ((P.info? e).bind (·.zero)).isSome = true) (hpos : 0 < m) (hsmall : m ≤ 1000)
    (h : ∀ w2, New w w2 (.cells cs.toArray e) → K (a.put op.dst (.slice (some ⟨w.heap.size, 0, none⟩) 1 1)) w2) : if Region.wanted op Y = true then Oper.wpIn F n P op a w K Q else R := by
  have hr := run_buildOne (P := P) (w := w) hu m hm hie hz hpos hsmall
  refine wpOpIn_run hw (by simp [Oper.about, ho]) (by rw [ho]; intro c hc; cases hc) ?_ (h _ (New.alloc w _))
  simp [execOp, ho, hx, hr, Result.andThen]

theorem ap_step {K : Act → World → Prop} {Y : Nat → Option Bool} {R : Prop} (hw : Region.wanted op Y = true) (s x : Operand) (t : TypeId) (ho : op.op = .call { callee := .builtin .append, args := #[s, x], argTypes := #[t, t] })
    (base : Nat) (e : TypeId) (size : Nat) (ht : P.underlying t = some (.slice e)) (hs0 : (P.info? e).map (·.size) = some size) (hz0 : ((P.info? e).bind (·.zero)).map (·.cells.size) = some size) (hb0 : ((P.info? e).map (·.bytes)).any (· ≤ 1000000) = true) (hsz : 0 < size)
    (v : Value) (k : Nat) (xs : List Value) (hs : a.eval s = v) (hown : w.ownsRow base e size v k xs)
    (ad : Addr) (c : Nat) (news : List Value) (hx : a.eval x = .slice (some ad) 1 c) (hl : news.length = size) (hnews : ∀ j u, news[j]? = some u → w.cell? (ad.add j) = some u) (h1 : ∀ u ∈ news, u.oneCell' = true)
    (hk : k ≤ 100000) (hbase : base ≤ w.heap.size)
    (h : ∀ v' w', w'.ownsRow base e size v' (k + 1) (xs ++ news) → w.grownBy w' v.ownBlock → (v'.ownBlock = v.ownBlock ∨ v'.ownBlock = some w.heap.size) → K (a.put op.dst v') w') : if Region.wanted op Y = true then Oper.wpIn F n P op a w K Q else R := by
  cases hie : P.info? e with
  | none => rw [hie] at hs0; cases hs0
  | some ie =>
    simp only [hie, Option.map_some, Option.some.injEq, Option.bind_some, Option.any_some, decide_eq_true_eq] at hs0 hz0 hb0
    obtain ⟨z, hzz⟩ : ∃ z, ie.zero = some z := by
      cases hq : ie.zero with
      | none => rw [hq] at hz0; cases hz0
      | some z => exact ⟨z, rfl⟩
    rw [hzz] at hz0
    simp only [Option.map_some, Option.some.injEq] at hz0
    have hbb : (k + 1) * ie.bytes ≤ 140737488355328 := Nat.le_trans (Nat.mul_le_mul (show k + 1 ≤ 100001 by omega) hb0) (by decide)
    obtain ⟨v', w', hr, r2, r3, _, r5⟩ := run_append_own_at (P := P) w base t op.type e ie z size ie.bytes ht hie hzz hs0 rfl hz0 hsz v k xs hown ad 1 c news (by rw [hl, Nat.one_mul]) hnews h1 (by simp only [maxLen]; omega) hbb hbase
    refine wpOpIn_run hw (by simp [Oper.about, ho, resolve, Target.leads, Sem.run_pure]) (by rw [ho]; intro c hc; cases hc) ?_ (h v' w' r2 r3 r5)
    simp [execOp, ho, resolve, invoke, builtin, hs, hx, hr, Result.andThen]

theorem st_step {K : Act → World → Prop} {Y : Nat → Option Bool} {R : Prop} (hw : Region.wanted op Y = true) {ty : TypeId} {x y : Operand} (ho : op.op = .store ty x y) {g o : Nat} (hx : a.eval x = .pointer (some ⟨g, o, none⟩)) {v : Value} (hy : a.eval y = v) (hv : v.cells = #[v])
    {c : List Value} {t : TypeId} (hat : At w g c t) (his : (P.info? ty).map (·.size) = some 1) (hn : o < c.length) (h1 : v.oneCell' = true)
    (h : ∀ w2, Upd w w2 g (.cells (c.set o v).toArray t) → K (a.put op.dst undef) w2) : if Region.wanted op Y = true then Oper.wpIn F n P op a w K Q else R := by
  have hr : (storeVar ty ⟨g, o, none⟩ v).run P w = .ok () (w.setCell ⟨g, o, none⟩ v) := by
    cases hq : P.info? ty with
    | none => simp [hq] at his
    | some i =>
      have hs : i.size = 1 := by simpa [hq] using his
      have hc := run_storeCells_cells (P := P) g o [v] 0 w (fun j hj => by
        have : j = 0 := by simpa using hj
        subst this
        rw [hat.cell]
        rw [List.getElem?_eq_getElem (by omega)]; rfl) (fun j hj => hat.frozen _) (fun u hu => by simp at hu; subst hu; exact h1)
      simp [storeVar, sizeOf, typeInfo, hq, hv, hs] at hc ⊢
      rw [hc]
      simp [World.setCells]
  refine wpOpIn_skip hw (by simp [Oper.about, ho]) (by rw [ho]; intro c hc; cases hc) ?_ (h _ (Upd.setCell hat v))
  simp [execOp, ho, hx, hy, Instr.storeAt, Instr.sureAddr, Result.andThen_ok, hr]
end

/-- the words of a block -/
def blk (l : List Int) (i : Nat) : List Int := (l.drop (64 * i)).take 64
/-- the cells of the first blocks -/
def foundCells (l : List Int) (n : Nat) : List Value := (List.range n).flatMap fun i => fBlock (blk l i)
theorem fBlock_length (l : List Int) : (fBlock l).length = 66 := bk_length (ksf_len _ _) (psf_len _ _)
theorem foundCells_succ (l : List Int) (n : Nat) : foundCells l (n + 1) = foundCells l n ++ fBlock (blk l n) := by
  unfold foundCells; rw [List.range_succ, List.flatMap_append]; simp
theorem foundCells_zero (l : List Int) : foundCells l 0 = [] := rfl

def cellsOf (l : List Int) {m : Nat} (pre : List (Fin m)) : List Value := pre.flatMap fun i => fBlock (blk l i.1)
theorem cellsOf_snoc (l : List Int) {m : Nat} (pre : List (Fin m)) (x : Fin m) : cellsOf l (pre ++ [x]) = cellsOf l pre ++ fBlock (blk l x.1) := by unfold cellsOf; simp
theorem cellsOf_up (l : List Int) (m : Nat) : ∀ k, k ≤ m → cellsOf l (upF m k) = foundCells l k
  | 0, _ => rfl
  | k + 1, h => by rw [upF_succ (show k < m by omega), cellsOf_snoc, foundCells_succ, cellsOf_up l m k (by omega)]

theorem own_ne {W : World} {base g n size : Nat} {e t : TypeId} {v : Value} {xs c : List Value} (h : W.ownsRow base e size v n xs) (ha : At W g c t) (hte : t ≠ e) : v.ownBlock ≠ some g := by
  intro hv
  rcases h.2 with ⟨rfl, _⟩ | ⟨g', cap, cur, rfl, _, hg, _⟩
  · cases hv
  · simp only [Value.ownBlock, Option.some.injEq] at hv
    subst hv
    have := ha.heap
    rw [hg] at this
    cases this
    exact hte rfl
theorem own_kept {W W' : World} {base n size : Nat} {e : TypeId} {v : Value} {xs : List Value} {row : Option Nat} (h : W.ownsRow base e size v n xs) (hg : W.grownBy W' row)
    (hr : ∀ r, row = some r → ∃ o : Obj, W.heap[r]? = some o ∧ o.isCells = false) : W'.ownsRow base e size v n xs := by
  refine h.kept hg ?_
  by_cases hv : v.ownBlock = none
  · exact .inl hv
  · refine .inr fun e1 => ?_
    cases hrow : row with
    | none => rw [hrow] at e1; exact hv e1
    | some r =>
      obtain ⟨o, ho, hc⟩ := hr r hrow
      rcases h.2 with ⟨rfl, _⟩ | ⟨g', cap, cur, rfl, _, hg', _⟩
      · exact hv rfl
      · rw [hrow] at e1
        simp only [Value.ownBlock, Option.some.injEq] at e1
        subst e1
        rw [hg'] at ho; cases ho; cases hc
theorem own_below {W W' : World} {base n size : Nat} {e : TypeId} {v : Value} {xs : List Value} (h : W.ownsRow base e size v n xs) (hb : Below W.heap.size W W') : W'.ownsRow base e size v n xs := by
  refine ⟨h.1, ?_⟩
  rcases h.2 with ⟨rfl, h0⟩ | ⟨g', cap, cur, rfl, hb', hg', h3⟩
  · exact .inl ⟨rfl, h0⟩
  · exact .inr ⟨g', cap, cur, rfl, hb', by rw [hb.block g' (Array.getElem?_eq_some_iff.1 hg').1]; exact hg', h3⟩
theorem own_upd {W W' : World} {base n size g : Nat} {e : TypeId} {v : Value} {xs : List Value} {o : Obj} (h : W.ownsRow base e size v n xs) (hu : Upd W W' g o) (hne : v.ownBlock ≠ some g) : W'.ownsRow base e size v n xs := by
  refine ⟨h.1, ?_⟩
  rcases h.2 with ⟨rfl, h0⟩ | ⟨g', cap, cur, rfl, hb', hg', h3⟩
  · exact .inl ⟨rfl, h0⟩
  · exact .inr ⟨g', cap, cur, rfl, hb', by rw [hu.other g' (fun e => hne (by rw [e]; rfl))]; exact hg', h3⟩

/-- the result's cell and its row -/
def OutAt (g base : Nat) (l : List Int) {m : Nat} (pre : List (Fin m)) (W : World) : Prop := ∃ v, At W g [v] 43 ∧ W.ownsRow base 55 66 v pre.length (cellsOf l pre)
theorem ownFrom_out (B g base : Nat) (l : List Int) (m : Nat) : OwnFrom B (fun (pre : List (Fin m)) W => OutAt g base l pre W) := fun s W W' row ⟨v, h1, h2⟩ hg hr =>
  ⟨v, ownFrom_at B g _ (fun _ => [v]) s W W' row h1 hg hr, own_kept h2 hg (fun r e => (hr r e).2)⟩

theorem sl_blk {w W : World} {b off cap : Nat} {l : List Int} (hs : Sl w (.slice (some ⟨b, off, none⟩) l.length cap) l) (hcap : l.length ≤ cap) (hc63 : cap ≤ 9223372036854775807) (hb : b < w.heap.size) (hB : Below w.heap.size w W) {i : Nat} (hi : 64 * i + 64 ≤ l.length) :
    Sl W (blockSl b off i) (blk l i) := by
  have h := (sl_sub hs (64 * i) 64 hi hcap hc63 (by omega) hb).below hB
  have hl : (blk l i).length = 64 := by unfold blk; rw [List.length_take, List.length_drop]; omega
  rcases h with ⟨e, _⟩ | ⟨b', off', cap', e, h1, h2, h3, h4, h5⟩
  · cases e
  · simp only [Value.slice.injEq, Option.some.injEq, Addr.mk.injEq] at e
    obtain ⟨⟨rfl, rfl, _⟩, _, rfl⟩ := e
    exact .inr ⟨_, off + 64 * i, 64, by unfold blockSl; rw [hl], by rw [hl]; exact Nat.le_refl _, by omega, h3, h4, h5⟩

theorem add0 (B j : Nat) : (⟨B, 0, none⟩ : Addr).add j = ⟨B, j, none⟩ := by by_cases h : j = 0 <;> simp [Addr.add, h]

theorem own_block {W : World} {base n size : Nat} {e : TypeId} {v : Value} {xs : List Value} (h : W.ownsRow base e size v n xs) {r : Nat} (hr : v.ownBlock = some r) : base ≤ r ∧ ∃ cur, W.heap[r]? = some (.cells cur e (0, 0)) := by
  rcases h.2 with ⟨rfl, _⟩ | ⟨g', cap, cur, rfl, hb, hg, _⟩
  · cases hr
  · simp only [Value.ownBlock, Option.some.injEq] at hr
    subst hr
    exact ⟨hb, cur, hg⟩
theorem own_cells1 {W : World} {base n size : Nat} {e : TypeId} {v : Value} {xs : List Value} (h : W.ownsRow base e size v n xs) : v.cells = #[v] ∧ v.oneCell' = true := by
  rcases h.2 with ⟨rfl, _⟩ | ⟨g', cap, cur, rfl, hb, hg, _⟩ <;> exact ⟨rfl, rfl⟩
theorem at_grown {V V2 : World} {v : Value} {g : Nat} {c : List Value} {t : TypeId} (ha : At V g c t) (hg : V.grownBy V2 v.ownBlock) (hne : v.ownBlock ≠ some g) : At V2 g c t := by
  have hlt := ha.lt
  unfold At at *
  rw [hg.block g hlt (fun e => hne e.symm)]; exact ha

/-- what a round's walk carries along -/
structure RndW (sv : Value) (w W V : World) (n : Nat) (v0 v : Value) (cs : List Value) : Prop where
  others : KeepsOthers W V
  below : Below w.heap.size w V
  at_ : At V w.heap.size [v0] 43
  at1 : At V (w.heap.size + 1) [sv] 62
  at2 : At V (w.heap.size + 2) [.int .i64 64] 3
  own : V.ownsRow w.heap.size 55 66 v n cs
theorem RndW.call {sv : Value} {w W V V2 : World} {n : Nat} {v0 v : Value} {cs : List Value} (h : RndW sv w W V n v0 v cs) (hb : Below V.heap.size V V2) : RndW sv w W V2 n v0 v cs :=
  ⟨h.others.trans (keepsOthers_below hb), h.below.trans (hb.mono h.below.size), h.at_.of_below hb, h.at1.of_below hb, h.at2.of_below hb, own_below h.own hb⟩
theorem RndW.drew {sv : Value} {w W V : World} {n : Nat} {v0 v : Value} {cs : List Value} (h : RndW sv w W V n v0 v cs) : RndW sv w W V.drew n v0 v cs :=
  h.call (below_drewN (Below.refl _ _) 1)
theorem RndW.cell {sv : Value} {w W V : World} {n : Nat} {v0 v : Value} {cs : List Value} (h : RndW sv w W V n v0 v cs) : V.cell? ⟨w.heap.size, 0, none⟩ = some v0 := h.at_.cell 0
theorem RndW.append {sv : Value} {w W V V2 : World} {n n' : Nat} {v0 v v' : Value} {cs cs' : List Value} (h : RndW sv w W V n v0 v cs) (ho : V2.ownsRow w.heap.size 55 66 v' n' cs') (hg : V.grownBy V2 v.ownBlock) : RndW sv w W V2 n' v0 v' cs' :=
  ⟨h.others.trans ⟨hg.size, fun k o hk hoc => by
      rw [hg.block k (Array.getElem?_eq_some_iff.1 hk).1 (fun e => by
        obtain ⟨_, cur, hc⟩ := own_block h.own e.symm
        rw [hc] at hk; cases hk; cases hoc)]
      exact hk⟩,
    h.below.grown hg h.below.size (fun k e => (own_block h.own e).1),
    at_grown h.at_ hg (own_ne h.own h.at_ (by decide)), at_grown h.at1 hg (own_ne h.own h.at1 (by decide)), at_grown h.at2 hg (own_ne h.own h.at2 (by decide)), ho⟩
theorem RndW.stored {sv : Value} {w W V V2 : World} {n : Nat} {v0 v : Value} {cs : List Value} (h : RndW sv w W V n v0 v cs) (hu : Upd V V2 w.heap.size (.cells [v].toArray 43)) : RndW sv w W V2 n v v cs :=
  ⟨h.others.trans (keepsOthers_upd h.at_ hu), h.below.trans (hu.below (Nat.le_refl _)), hu.to, hu.at h.at1 (by omega), hu.at h.at2 (by omega), own_upd h.own hu (own_ne h.own h.at_ (by decide))⟩
theorem at_keep {b : Nat} {W W' : World} {c : List Value} {t : TypeId} (h : At W b c t) (k : At W' b c t) : KeepBlk b W W' := by
  unfold KeepBlk At at *; rw [h, k]

set_option maxRecDepth 100000 in
theorem words_in (b off cap m : Nat) (l : List Int) (w : World) (hl : l.length = 64 * m) (hm : 1 ≤ m ∧ m ≤ 64) (hcap : l.length ≤ cap) (hc63 : cap ≤ 9223372036854775807) (hb : b < w.heap.size) (hs : Sl w (.slice (some ⟨b, off, none⟩) l.length cap) l) :
    CallsIn Fence.wide 10 Try.prog 17 #[.slice (some ⟨b, off, none⟩) (64 * m : Nat) cap] w fun e w' => (∃ v, e = .returned (.tuple #[v, .int .i64 0]) ∧ w'.ownsRow w.heap.size 55 66 v m (foundCells l m)) ∧ Below w.heap.size w w' := by
  refine callsIn_of_wp_marks Try.func17 rfl trivial ?_ rfl
  simp only [Try.ntmps17, List.size_toArray, List.length_cons, List.length_nil, Nat.reduceAdd, Nat.reduceSub, Array.replicate_succ, Array.replicate_zero, List.push_toArray, List.append_toArray, List.nil_append, List.cons_append]
  obtain ⟨hm1, hm2⟩ := hm
  have Hl := Lib.hid hl; have Hcap := Lib.hid hcap; have Hs := Lib.hid hs; clear hl hcap hs
  gi_wp2_with fail
  refine ⟨trivial, (chunk_in _ _ _ _ _).mono ?_⟩
  rintro e w4 ⟨rfl, rfl⟩
  have hA0 : At (w.alloc (.cells #[.slice none 0 0] 43)) w.heap.size [.slice none 0 0] 43 := (New.alloc w _).to
  have hw1s : (w.alloc (.cells #[.slice none 0 0] 43)).heap.size = w.heap.size + 1 := World.size_alloc _ _
  have hb1 : Below w.heap.size w (w.alloc (.cells #[.slice none 0 0] 43)) := (Below.refl _ w).alloc (Nat.le_refl _) _
  generalize (w.alloc (.cells #[.slice none 0 0] 43)) = w1 at *
  have hB1 : At (w1.alloc (.cells #[.slice (some ⟨b, off, none⟩) (64 * m : Nat) cap] 62)) w1.heap.size [.slice (some ⟨b, off, none⟩) (64 * m : Nat) cap] 62 := (New.alloc w1 _).to
  have hA1 := (New.alloc w1 (.cells #[.slice (some ⟨b, off, none⟩) (64 * m : Nat) cap] 62)).at hA0
  have hw2s : (w1.alloc (.cells #[.slice (some ⟨b, off, none⟩) (64 * m : Nat) cap] 62)).heap.size = w.heap.size + 2 := by rw [World.size_alloc, hw1s]
  have hb2 : Below w.heap.size w (w1.alloc (.cells #[.slice (some ⟨b, off, none⟩) (64 * m : Nat) cap] 62)) := hb1.alloc (by omega) _
  rw [hw1s] at hB1 ⊢
  generalize (w1.alloc (.cells #[.slice (some ⟨b, off, none⟩) (64 * m : Nat) cap] 62)) = w2 at *
  have hB2 : At (w2.alloc (.cells #[.int .i64 64] 3)) w2.heap.size [.int .i64 64] 3 := (New.alloc w2 _).to
  have hA2 := (New.alloc w2 (.cells #[.int .i64 64] 3)).at hA1
  have hB1' := (New.alloc w2 (.cells #[.int .i64 64] 3)).at hB1
  have hw3s : (w2.alloc (.cells #[.int .i64 64] 3)).heap.size = w.heap.size + 3 := by rw [World.size_alloc, hw2s]
  have hb3 : Below w.heap.size w (w2.alloc (.cells #[.int .i64 64] 3)) := hb2.alloc (by omega) _
  rw [hw2s] at hB2
  generalize (w2.alloc (.cells #[.int .i64 64] 3)) = w3 at *
  clear hA0 hA1 hB1 hb1 hb2 hw1s hw2s w1 w2
  gi_wp2_with fail
  refine wpIn_rangeFunc_ownF rfl (by omega) (gf := 38) (lb := #[.pointer (some ⟨w.heap.size + 1, 0, none⟩), .pointer (some ⟨w.heap.size + 1 + 1, 0, none⟩)]) rfl trivial (enters_of Try.func38 (by kernel_rfl) rfl)
    (chunk_stops (w.heap.size + 1) (w.heap.size + 2) b off m cap _ _ (by have := Hcap.out; rw [Hl.out] at this; exact this) hc63 (by omega) w3 hB1' hB2) keepTwo_t (fun W l o o' h1 h2 h3 h4 => ⟨keepBlk_b hB1'.lt W l o o' h1 h2 h3 h4, keepBlk_b hB2.lt W l o o' h1 h2 h3 h4⟩) (Below.refl _ _) (fun _ => rfl)
    (fun pre W => (OutAt w.heap.size w.heap.size l pre W ∧ At W (w.heap.size + 1) [.slice (some ⟨b, off, none⟩) (64 * m : Nat) cap] 62 ∧ At W (w.heap.size + 2) [.int .i64 64] 3) ∧ Below w.heap.size w W) (fun _ _ _ => False)
    (OwnFrom.and (OwnFrom.and (ownFrom_out _ _ _ _ _) (OwnFrom.and (ownFrom_at _ _ _ (fun _ => [.slice (some ⟨b, off, none⟩) (64 * m : Nat) cap])) (ownFrom_at _ _ _ (fun _ => [.int .i64 64])))) (ownFrom_below (Nat.le_refl _) hb3.size)) (fun _ _ _ _ _ hs _ _ => hs)
    ⟨⟨⟨_, hA2, World.ownsRow_nil _ _ _ _⟩, hB1', hB2⟩, hb3⟩
    (fun x => { tmps := #[.slice (some ⟨b, off, none⟩) (64 * m : Nat) cap, undef, .slice none 0 0, .int .i64 0, .int .i64 m, .pointer (some ⟨w.heap.size, 0, none⟩), blockSl b off x.1, .slice (some ⟨b, off, none⟩) (64 * m : Nat) cap, .int .i64 (64 * (m : Int)), .int .i64 m, .slice (some ⟨b, off, none⟩) (64 * m : Nat) cap, .int .i64 (64 * (m : Int)), .int .i64 0, .bool false, .bool false, .int .i64 m, .bool (decide ((m : Int) < 1)), .bool (decide ((m : Int) < 1)), .bool (decide ((m : Int) < 1)), .int .i64 m, .bool (decide (64 < (m : Int))), .bool (decide ((m : Int) < 1) || decide (64 < (m : Int))), .slice (some ⟨b, off, none⟩) (64 * m : Nat) cap, .func (.func 38) #[] #[.pointer (some ⟨w.heap.size + 1, 0, none⟩), .pointer (some ⟨w.heap.size + 1 + 1, 0, none⟩)], blockSl b off x.1, undef, undef, undef, undef, undef, undef], defers := [] }) ?assign ?body ?done ?stop
  case assign =>
    intro l x W K hK
    unfold blockEnc
    gi_wp2
    exact hK
  case body =>
    rintro lp pre x W ⟨⟨⟨v, hA, hO⟩, h1, h2⟩, hB⟩ hlt
    clear hA2 hB1' hB2 hw3s hb3
    have hR : RndW _ w W W pre.length v v (cellsOf l pre) := ⟨KeepsOthers.refl _, hB, hA, h1, h2, hO⟩
    have H1 := Lib.hid h1; have H2 := Lib.hid h2; clear h1 h2
    have hR := hR.drew
    have hc0 := hR.cell
    have HR := Lib.hid hR; have Hlt := Lib.hid hlt; clear hA hO hB hR hlt
    have Hx := Lib.hid x.2
    have hblen : (blk l x.1).length = 64 := by unfold blk; rw [List.length_take, List.length_drop, Hl.out]; have := Hx.out; omega
    have Hbl := Lib.hid hblen; clear hblen
    have hsx : ∀ V, Below w.heap.size w V → Sl V (blockSl b off x.1) (blk l x.1) := fun V hV => sl_blk Hs.out Hcap.out hc63 hb hV (by rw [Hl.out]; have := Hx.out; omega)
    have Hsx := Lib.hid hsx; clear hsx
    have hfl := fBlock_length (blk l x.1)
    have Hfl := Lib.hid hfl; clear hfl
    have hib : (Try.prog.info? 55).map (·.size) = some 66 := by kernel_rfl
    have hzb : ((Try.prog.info? 55).bind (·.zero)).isSome = true := by kernel_rfl
    have hi1 : (Try.prog.info? 43).map (·.size) = some 1 := by kernel_rfl
    have hzc : ((Try.prog.info? 55).bind (·.zero)).map (·.cells.size) = some 66 := by kernel_rfl
    have hby : ((Try.prog.info? 55).map (·.bytes)).any (· ≤ 1000000) = true := by kernel_rfl
    have hone := bk_one (h := (count ((blk l x.1).take 4)).2) (c := (count ((blk l x.1).take 4)).1) (ks := ksf (fKind (blk l x.1)) (up8 8)) (ps := psf (fPage (blk l x.1)) (up8 8))
    have Hone : Hid (∀ u ∈ fBlock (blk l x.1), u.oneCell' = true) := Lib.hid hone; clear hone
    have Hzc := Lib.hid hzc; have Hby := Lib.hid hby; clear hzc hby
    have Hib := Lib.hid hib; have Hzb := Lib.hid hzb; have Hi1 := Lib.hid hi1; clear hib hzb hi1
    gi_wp2_with fail
    refine wpIn_region_any (by kernel_rfl) ?_
    change wpAnyIn _ _ _ _ _ _ _ _ _ (World.drew _)
    refine wpAnyIn_ready (rs := [0, 1]) (by kernel_rfl) (by simp) ?_
    refine AllReadyIn.cons rfl (fun K hK => ?_) ?_
    · go_simp
      refine hK _ _ ?_; clear hK K
      refine wpAnyIn_ready (rs := [1]) (by kernel_rfl) (by simp) ?_
      refine AllReadyIn.cons rfl (fun K hK => ?_) ?_
      · go_simp
        refine hK _ _ ?_; clear hK K
        refine wpAnyIn_ready (rs := [2]) (by kernel_rfl) (by simp) ?_
        refine AllReadyIn.cons rfl (fun K hK => ?_) ?_
        · go_simp
          refine ⟨trivial, (CallsIn.inRound lp (callsIn_wide.2 (found_any b (off + 64 * x.1) 64 _ _ Hbl.out (Nat.le_refl _) (by decide) (by have := HR.out.below.size; omega) (Hsx.out _ HR.out.below)))).mono ?_⟩; rintro e W2 ⟨rfl, hb2⟩
          have HR2 := Lib.hid (HR.out.call hb2); clear hb2
          have hc2 := HR2.out.cell
          refine hK _ _ ?_; clear hK K
          refine wpAnyIn_ready (rs := [3]) (by kernel_rfl) (by simp) ?_
          refine AllReadyIn.cons rfl (fun K hK => ?_) ?_
          · refine bs_step rfl rfl rfl Try.underlying43 66 Hfl.out Hib.out Hzb.out (by decide) (by decide) ?_; intro W3 hn3
            have HR3 := Lib.hid (HR2.out.call (hn3.below (Nat.le_refl _)))
            have hc3 := HR3.out.cell
            have HN3 := Lib.hid hn3.to; clear hn3
            refine hK _ _ ?_; clear hK K
            refine wpAnyIn_ready (rs := [4]) (by kernel_rfl) (by simp) ?_
            refine AllReadyIn.cons rfl (fun K hK => ?_) ?_
            · refine ap_step rfl _ _ _ rfl w.heap.size 55 66 Try.underlying43 Hib.out Hzc.out Hby.out (by decide) v _ _ rfl HR3.out.own ⟨W2.heap.size, 0, none⟩ 1 _ rfl Hfl.out (fun j u hu => by have h := HN3.out.cell j; rw [hu] at h; rw [add0]; exact h) Hone.out (by have := Hlt.out; omega) HR3.out.below.size ?_; intro v' W4 hown4 hgr4 hat4
              have HR4 := Lib.hid (HR3.out.append hown4 hgr4)
              clear hgr4 hat4 hown4
              refine hK _ _ ?_; clear hK K
              refine wpAnyIn_ready (rs := [5]) (by kernel_rfl) (by simp) ?_
              refine AllReadyIn.cons rfl (fun K hK => ?_) ?_
              · refine st_step (v := v') rfl rfl rfl rfl ?_ HR4.out.at_ Hi1.out Nat.zero_lt_one ?_ ?_
                · exact (own_cells1 HR4.out.own).1
                · exact (own_cells1 HR4.out.own).2
                intro W5 hu5
                have HR5 := Lib.hid (HR4.out.stored hu5); clear hu5
                refine hK _ _ ?_; clear hK K
                refine wpAnyIn_done (by kernel_rfl) ?_ _
                exact ⟨HR5.out.others, ⟨at_keep H1.out HR5.out.at1, at_keep H2.out HR5.out.at2⟩, ⟨⟨v', HR5.out.at_, by have h := HR5.out.own; rw [cellsOf_snoc, List.length_append]; exact h⟩, HR5.out.at1, HR5.out.at2⟩, HR5.out.below⟩
              exact AllReadyIn.nil
            exact AllReadyIn.nil
          exact AllReadyIn.nil
        exact AllReadyIn.nil
      exact AllReadyIn.nil
    refine AllReadyIn.cons rfl (fun K hK => ?_) ?_
    · go_simp
      refine hK _ _ ?_; clear hK K
      refine wpAnyIn_ready (rs := [0, 2]) (by kernel_rfl) (by simp) ?_
      refine AllReadyIn.cons rfl (fun K hK => ?_) ?_
      · go_simp
        refine hK _ _ ?_; clear hK K
        refine wpAnyIn_ready (rs := [2]) (by kernel_rfl) (by simp) ?_
        refine AllReadyIn.cons rfl (fun K hK => ?_) ?_
        · go_simp
          refine ⟨trivial, (CallsIn.inRound lp (callsIn_wide.2 (found_any b (off + 64 * x.1) 64 _ _ Hbl.out (Nat.le_refl _) (by decide) (by have := HR.out.below.size; omega) (Hsx.out _ HR.out.below)))).mono ?_⟩; rintro e W2 ⟨rfl, hb2⟩
          have HR2 := Lib.hid (HR.out.call hb2); clear hb2
          have hc2 := HR2.out.cell
          refine hK _ _ ?_; clear hK K
          refine wpAnyIn_ready (rs := [3]) (by kernel_rfl) (by simp) ?_
          refine AllReadyIn.cons rfl (fun K hK => ?_) ?_
          · refine bs_step rfl rfl rfl Try.underlying43 66 Hfl.out Hib.out Hzb.out (by decide) (by decide) ?_; intro W3 hn3
            have HR3 := Lib.hid (HR2.out.call (hn3.below (Nat.le_refl _)))
            have hc3 := HR3.out.cell
            have HN3 := Lib.hid hn3.to; clear hn3
            refine hK _ _ ?_; clear hK K
            refine wpAnyIn_ready (rs := [4]) (by kernel_rfl) (by simp) ?_
            refine AllReadyIn.cons rfl (fun K hK => ?_) ?_
            · refine ap_step rfl _ _ _ rfl w.heap.size 55 66 Try.underlying43 Hib.out Hzc.out Hby.out (by decide) v _ _ rfl HR3.out.own ⟨W2.heap.size, 0, none⟩ 1 _ rfl Hfl.out (fun j u hu => by have h := HN3.out.cell j; rw [hu] at h; rw [add0]; exact h) Hone.out (by have := Hlt.out; omega) HR3.out.below.size ?_; intro v' W4 hown4 hgr4 hat4
              have HR4 := Lib.hid (HR3.out.append hown4 hgr4)
              clear hgr4 hat4 hown4
              refine hK _ _ ?_; clear hK K
              refine wpAnyIn_ready (rs := [5]) (by kernel_rfl) (by simp) ?_
              refine AllReadyIn.cons rfl (fun K hK => ?_) ?_
              · refine st_step (v := v') rfl rfl rfl rfl ?_ HR4.out.at_ Hi1.out Nat.zero_lt_one ?_ ?_
                · exact (own_cells1 HR4.out.own).1
                · exact (own_cells1 HR4.out.own).2
                intro W5 hu5
                have HR5 := Lib.hid (HR4.out.stored hu5); clear hu5
                refine hK _ _ ?_; clear hK K
                refine wpAnyIn_done (by kernel_rfl) ?_ _
                exact ⟨HR5.out.others, ⟨at_keep H1.out HR5.out.at1, at_keep H2.out HR5.out.at2⟩, ⟨⟨v', HR5.out.at_, by have h := HR5.out.own; rw [cellsOf_snoc, List.length_append]; exact h⟩, HR5.out.at1, HR5.out.at2⟩, HR5.out.below⟩
              exact AllReadyIn.nil
            exact AllReadyIn.nil
          exact AllReadyIn.nil
        exact AllReadyIn.nil
      refine AllReadyIn.cons rfl (fun K hK => ?_) ?_
      · go_simp
        refine ⟨trivial, (CallsIn.inRound lp (callsIn_wide.2 (found_any b (off + 64 * x.1) 64 _ _ Hbl.out (Nat.le_refl _) (by decide) (by have := HR.out.below.size; omega) (Hsx.out _ HR.out.below)))).mono ?_⟩; rintro e W2 ⟨rfl, hb2⟩
        have HR2 := Lib.hid (HR.out.call hb2); clear hb2
        have hc2 := HR2.out.cell
        refine hK _ _ ?_; clear hK K
        refine wpAnyIn_ready (rs := [0, 3]) (by kernel_rfl) (by simp) ?_
        refine AllReadyIn.cons rfl (fun K hK => ?_) ?_
        · go_simp
          refine hK _ _ ?_; clear hK K
          refine wpAnyIn_ready (rs := [3]) (by kernel_rfl) (by simp) ?_
          refine AllReadyIn.cons rfl (fun K hK => ?_) ?_
          · refine bs_step rfl rfl rfl Try.underlying43 66 Hfl.out Hib.out Hzb.out (by decide) (by decide) ?_; intro W3 hn3
            have HR3 := Lib.hid (HR2.out.call (hn3.below (Nat.le_refl _)))
            have hc3 := HR3.out.cell
            have HN3 := Lib.hid hn3.to; clear hn3
            refine hK _ _ ?_; clear hK K
            refine wpAnyIn_ready (rs := [4]) (by kernel_rfl) (by simp) ?_
            refine AllReadyIn.cons rfl (fun K hK => ?_) ?_
            · refine ap_step rfl _ _ _ rfl w.heap.size 55 66 Try.underlying43 Hib.out Hzc.out Hby.out (by decide) v _ _ rfl HR3.out.own ⟨W2.heap.size, 0, none⟩ 1 _ rfl Hfl.out (fun j u hu => by have h := HN3.out.cell j; rw [hu] at h; rw [add0]; exact h) Hone.out (by have := Hlt.out; omega) HR3.out.below.size ?_; intro v' W4 hown4 hgr4 hat4
              have HR4 := Lib.hid (HR3.out.append hown4 hgr4)
              clear hgr4 hat4 hown4
              refine hK _ _ ?_; clear hK K
              refine wpAnyIn_ready (rs := [5]) (by kernel_rfl) (by simp) ?_
              refine AllReadyIn.cons rfl (fun K hK => ?_) ?_
              · refine st_step (v := v') rfl rfl rfl rfl ?_ HR4.out.at_ Hi1.out Nat.zero_lt_one ?_ ?_
                · exact (own_cells1 HR4.out.own).1
                · exact (own_cells1 HR4.out.own).2
                intro W5 hu5
                have HR5 := Lib.hid (HR4.out.stored hu5); clear hu5
                refine hK _ _ ?_; clear hK K
                refine wpAnyIn_done (by kernel_rfl) ?_ _
                exact ⟨HR5.out.others, ⟨at_keep H1.out HR5.out.at1, at_keep H2.out HR5.out.at2⟩, ⟨⟨v', HR5.out.at_, by have h := HR5.out.own; rw [cellsOf_snoc, List.length_append]; exact h⟩, HR5.out.at1, HR5.out.at2⟩, HR5.out.below⟩
              exact AllReadyIn.nil
            exact AllReadyIn.nil
          exact AllReadyIn.nil
        refine AllReadyIn.cons rfl (fun K hK => ?_) ?_
        · refine bs_step rfl rfl rfl Try.underlying43 66 Hfl.out Hib.out Hzb.out (by decide) (by decide) ?_; intro W3 hn3
          have HR3 := Lib.hid (HR2.out.call (hn3.below (Nat.le_refl _)))
          have hc3 := HR3.out.cell
          have HN3 := Lib.hid hn3.to; clear hn3
          refine hK _ _ ?_; clear hK K
          refine wpAnyIn_ready (rs := [0]) (by kernel_rfl) (by simp) ?_
          refine AllReadyIn.cons rfl (fun K hK => ?_) ?_
          · go_simp
            refine hK _ _ ?_; clear hK K
            refine wpAnyIn_ready (rs := [4]) (by kernel_rfl) (by simp) ?_
            refine AllReadyIn.cons rfl (fun K hK => ?_) ?_
            · refine ap_step rfl _ _ _ rfl w.heap.size 55 66 Try.underlying43 Hib.out Hzc.out Hby.out (by decide) v _ _ rfl HR3.out.own ⟨W2.heap.size, 0, none⟩ 1 _ rfl Hfl.out (fun j u hu => by have h := HN3.out.cell j; rw [hu] at h; rw [add0]; exact h) Hone.out (by have := Hlt.out; omega) HR3.out.below.size ?_; intro v' W4 hown4 hgr4 hat4
              have HR4 := Lib.hid (HR3.out.append hown4 hgr4)
              clear hgr4 hat4 hown4
              refine hK _ _ ?_; clear hK K
              refine wpAnyIn_ready (rs := [5]) (by kernel_rfl) (by simp) ?_
              refine AllReadyIn.cons rfl (fun K hK => ?_) ?_
              · refine st_step (v := v') rfl rfl rfl rfl ?_ HR4.out.at_ Hi1.out Nat.zero_lt_one ?_ ?_
                · exact (own_cells1 HR4.out.own).1
                · exact (own_cells1 HR4.out.own).2
                intro W5 hu5
                have HR5 := Lib.hid (HR4.out.stored hu5); clear hu5
                refine hK _ _ ?_; clear hK K
                refine wpAnyIn_done (by kernel_rfl) ?_ _
                exact ⟨HR5.out.others, ⟨at_keep H1.out HR5.out.at1, at_keep H2.out HR5.out.at2⟩, ⟨⟨v', HR5.out.at_, by have h := HR5.out.own; rw [cellsOf_snoc, List.length_append]; exact h⟩, HR5.out.at1, HR5.out.at2⟩, HR5.out.below⟩
              exact AllReadyIn.nil
            exact AllReadyIn.nil
          exact AllReadyIn.nil
        exact AllReadyIn.nil
      exact AllReadyIn.nil
    exact AllReadyIn.nil
  case done =>
    rintro D ys W hD rfl ⟨⟨⟨v, hA, hO⟩, _, _⟩, hB⟩ hK
    have hwD : w.heap.size ≤ D := by omega
    have hc0 : W.cell? ⟨w.heap.size, 0, none⟩ = some v := hA.cell 0
    have HA := Lib.hid hA; have HO := Lib.hid hO; have HB := Lib.hid hB; have HK := Lib.hid hK; have HD := Lib.hid hwD; clear hA hO hB hwD hK hD
    clear hA2 hB1' hB2 hw3s hb3
    gi_wp2_with fail
    refine ⟨by simp, .inl ⟨_, _, rfl, run_takeDeferred HK.out, ?_⟩⟩
    refine ⟨.tuple #[v, .int .i64 0], by simp [results, Try.f17, go_sem], ⟨v, rfl, ?_⟩, below_putObj HB.out HD.out (Nat.le_refl _)⟩
    have h := HO.out
    rw [upF_length (Nat.le_refl _), cellsOf_up l m m (Nat.le_refl _)] at h
    exact own_kept h (grownBy_putObj' W D _) (fun r e => by cases e; exact ⟨_, HK.out, rfl⟩)
  case stop =>
    rintro D c pre W _ _ h _
    exact h.elim
/-- scan.Words, at whole blocks -/
theorem scanWords_any (b off cap m : Nat) (l : List Int) (w : World) (hl : l.length = 64 * m) (hm : 1 ≤ m ∧ m ≤ 64) (hcap : l.length ≤ cap) (hc63 : cap ≤ 9223372036854775807) (hb : b < w.heap.size) (hs : Sl w (.slice (some ⟨b, off, none⟩) l.length cap) l) :
    Calls Try.prog 17 #[.slice (some ⟨b, off, none⟩) l.length cap] w fun e w' => (∃ v, e = .returned (.tuple #[v, .int .i64 0]) ∧ w'.ownsRow w.heap.size 55 66 v m (foundCells l m)) ∧ Below w.heap.size w w' := by
  have h := (callsIn_wide (n := 10)).1 (words_in b off cap m l w hl hm hcap hc63 hb hs)
  rw [hl]; exact h

/-- scan.Words, at what is no whole number of blocks, or too many -/
theorem scanWords_form (a : Option Addr) (len cap : Nat) (w : World) (hlen : len ≤ 140737488355328) (h : len % 64 ≠ 0 ∨ len / 64 < 1 ∨ 64 < len / 64) :
    Calls Try.prog 17 #[.slice a len cap] w fun e w' => e = .returned (.tuple #[.slice none 0 0, .int .i64 8]) ∧ w' = w := by
  refine (callsIn_wide (n := 10)).1 ?_
  refine callsIn_of_wp Try.func17 rfl trivial ?_ rfl
  simp only [Try.ntmps17, List.size_toArray, List.length_cons, List.length_nil, Nat.reduceAdd, Nat.reduceSub, Array.replicate_succ, Array.replicate_zero, List.push_toArray, List.append_toArray, List.nil_append, List.cons_append]
  obtain ⟨q, r, hr, rfl⟩ : ∃ q r, r < 64 ∧ len = 64 * q + r := ⟨len / 64, len % 64, Nat.mod_lt _ (by decide), by omega⟩
  have hq1 : (64 * q + r) / 64 = q := by omega
  have hr1 : (64 * q + r) % 64 = r := by omega
  rw [hq1, hr1] at h
  by_cases hr0 : r = 0
  · subst hr0
    have h := h.resolve_left (fun k => k rfl)
    by_cases hq0 : q = 0
    · subst hq0
      gi_wp2
      go_ret2
      exact ⟨rfl, rfl⟩
    · have hq2 : 64 < q := by omega
      clear hq1 hr1 h
      gi_wp2
      go_ret2
      exact ⟨rfl, rfl⟩
  · clear hq1 hr1 h
    gi_wp2
    go_ret2
    exact ⟨rfl, rfl⟩
end Go.Proofs.Ytihlbfbplmehiaa
