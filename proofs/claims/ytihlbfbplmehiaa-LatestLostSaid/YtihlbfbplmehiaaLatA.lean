/- Walks of package latest: all. -/
import Derived.Test.YtihlbfbplmehiaaScanS
import Derived.Test.YtihlbfbplmehiaaMake
namespace Go.Proofs.Ytihlbfbplmehiaa
open Go.RowKit Go.Shelf
set_option maxHeartbeats 4000000
attribute [local go_sem] Oper.semAt_some

section
variable {P : Program} {F : Fence} {n : Nat} {ops : Array Oper} {rest : List Oper} {op : Oper} {a : Act} {w w' : World} {Q : Exit → Act → World → Prop}
theorem in_run (hw : Region.wanted op (yielded ops a.tmps) = true) (hab : op.about P w a.eval = none) (hd : ∀ c, op.op ≠ .defer c) {v : Value} (hr : (execOp a.eval op).run P w = .ok (.value v) w') (h : wpListIn F n P ops Q rest (a.put op.dst v) w') : wpListIn F n P ops Q (op :: rest) a w :=
  wpOpIn_run hw hab hd hr h
theorem in_skip (hw : Region.wanted op (yielded ops a.tmps) = true) (hab : op.about P w a.eval = none) (hd : ∀ c, op.op ≠ .defer c) (hr : (execOp a.eval op).run P w = .ok .skip w') (h : wpListIn F n P ops Q rest (a.put op.dst undef) w') : wpListIn F n P ops Q (op :: rest) a w :=
  wpOpIn_skip hw hab hd hr h
/-- a struct is loaded -/
theorem ld_in (hw : Region.wanted op (yielded ops a.tmps) = true) {ty : TypeId} {x : Operand} (ho : op.op = .load ty x) {b o : Nat} (hx : a.eval x = .pointer (some ⟨b, o, none⟩)) {cs : List Value} (hr : w.rangeAt b o cs) {d : TypeDesc}
    (hu : P.underlying ty = some d) (hd : d.isRow = true) (hi : (P.info? ty).map (·.size) = some cs.length) (h : wpListIn F n P ops Q rest (a.put op.dst (.agg cs.toArray)) w) : wpListIn F n P ops Q (op :: rest) a w := by
  have hr := run_loadVar_mid (P := P) w b o ty cs d hr hu hd hi
  refine in_run hw (by simp [Oper.about, ho]) (by rw [ho]; intro c hc; cases hc) ?_ h
  simp only [execOp, ho, hx, Instr.loadAt, Instr.sureAddr, Sem.run_bind, Sem.run_pure, Result.andThen_ok, hr]
/-- memory for a variable -/
theorem al_in (hw : Region.wanted op (yielded ops a.tmps) = true) {ty : TypeId} (ho : op.op = .alloc ty) {z : Value} (hz : (zeroValue ty).run P w = .ok z w)
    (h : ∀ w2, New w w2 (.cells z.cells ty) → wpListIn F n P ops Q rest (a.put op.dst (.pointer (some ⟨w.heap.size, 0, none⟩))) w2) : wpListIn F n P ops Q (op :: rest) a w := by
  refine in_run hw (by simp [Oper.about, ho]) (by rw [ho]; intro c hc; cases hc) ?_ (h _ (New.alloc w _))
  simp [execOp, ho, Instr.alloc, newVar, newRow, hz]
theorem bx_in (hw : Region.wanted op (yielded ops a.tmps) = true) {ty : TypeId} {x : Operand} (ho : op.op = .box ty x) {v : Value} (hx : a.eval x = v)
    (h : ∀ w2, New w w2 (.cells v.cells ty) → wpListIn F n P ops Q rest (a.put op.dst (.pointer (some ⟨w.heap.size, 0, none⟩))) w2) : wpListIn F n P ops Q (op :: rest) a w := by
  refine in_run hw (by simp [Oper.about, ho]) (by rw [ho]; intro c hc; cases hc) ?_ (h _ (New.alloc w _))
  simp [execOp, ho, hx, Instr.box, newVar, newRow]
/-- a struct is built -/
theorem bd_in (hw : Region.wanted op (yielded ops a.tmps) = true) {ty : TypeId} {parts : Array (Nat × Operand)} (ho : op.op = .build ty parts) {vs : List (Nat × Value)} (hvs : parts.toList.map (fun x => (x.1, a.eval x.2)) = vs) {cells : Array Value} (hb : P.built ty vs = some cells)
    (h : wpListIn F n P ops Q rest (a.put op.dst (.agg cells)) w) : wpListIn F n P ops Q (op :: rest) a w := by
  subst hvs
  have hr := run_build w ty (parts.map fun x => (x.1, a.eval x.2)) cells (by rw [Array.toList_map]; exact hb)
  refine in_run hw (by simp [Oper.about, ho]) (by rw [ho]; intro c hc; cases hc) ?_ h
  simp only [execOp, ho, Sem.run_bind, hr, Result.andThen_ok, Sem.run_pure]
/-- an element of an aggregate, of one cell -/
theorem ix1_in (hw : Region.wanted op (yielded ops a.tmps) = true) {ty : TypeId} {x y : Operand} (ho : op.op = .index ty x y) {cs : List Value} (hx : a.eval x = .agg cs.toArray) {i : Nat} {k : IntKind} (hy : a.eval y = .int k i) {m : Nat} {e : TypeId} {d : TypeDesc} (hu : P.underlying ty = some (.array m e)) (he : P.underlying e = some d) (hd : d.isRow = false) (hi : i < m) (hm : (P.info? e).map (·.size) = some 1) {v : Value} (hv : cs[i]? = some v)
    (h : wpListIn F n P ops Q rest (a.put op.dst v) w) : wpListIn F n P ops Q (op :: rest) a w := by
  have hr : (Instr.index ty (.agg cs.toArray) (.int k i)).run P w = .ok v w := by
    cases hq : P.info? e with
    | none => simp [hq] at hm
    | some ie =>
      have hs : ie.size = 1 := by simpa [hq] using hm
      have hag : (isAgg e).run P w = .ok false w := by
        unfold isAgg
        cases d <;> simp [TypeDesc.isRow] at hd <;> simp [run_underlying he]
      have hin : (0 : Int) ≤ (i : Int) ∧ (i : Int) < (m : Int) := by omega
      have hsz : (sizeOf e).run P w = .ok 1 w := by simp [sizeOf, typeInfo, hq, hs]
      simp [Instr.index, asIntOf, run_underlying hu, hin, part, hag, hsz, hv, hi]
  refine in_run hw (by simp [Oper.about, ho]) (by rw [ho]; intro c hc; cases hc) ?_ h
  simp only [execOp, ho, hx, hy, Sem.run_bind, hr, Result.andThen_ok, Sem.run_pure]
end

structure Hold (p : Prop) : Prop where
  out : p
/-- a place: a block, a page, what is there -/
structure Pl where
  b : Nat
  k : Nat
  p : Pg
  deriving DecidableEq
def Pl.cells (x : Pl) : List Value := [.int .i64 x.b, .int .i64 x.k] ++ x.p.cells
structure Pl.ok (x : Pl) : Prop where
  b : x.b ≤ 1000000
  k : x.k ≤ 1000000
  p : x.p.ok
/-- a place that may be -/
abbrev Po := { x : Pl // x.ok }
def pv (l : List Po) : List Pl := l.map (·.1)
theorem pv_snoc (l : List Po) (x : Po) : pv (l ++ [x]) = pv l ++ [x.1] := by simp [pv]
theorem pv_len (l : List Po) : (pv l).length = l.length := by simp [pv]
def plEnc (x : Po) : Array Value := #[.agg x.1.cells.toArray]
/-- the pages that count, of a block's first k -/
def Bk.pls (i : Nat) (b : Bk) (k : Nat) : List Pl := (List.range k).filterMap fun j => if b.ks[j]?.getD 0 = 1 then some ⟨i, j, b.ps[j]?.getD Pg.zero⟩ else none
def plsTo (bs : List Bk) (i : Nat) : List Pl := (List.range i).flatMap fun j => match bs[j]? with | some x => Bk.pls j x 8 | none => []
def plsOf (bs : List Bk) : List Pl := plsTo bs bs.length
theorem pls_zero (i : Nat) (b : Bk) : Bk.pls i b 0 = [] := rfl
theorem pls_yes {i k : Nat} {b : Bk} (h : b.ks[k]?.getD 0 = 1) : Bk.pls i b (k + 1) = Bk.pls i b k ++ [⟨i, k, b.ps[k]?.getD Pg.zero⟩] := by
  unfold Bk.pls; rw [List.range_succ, List.filterMap_append]; simp [h]
theorem pls_no {i k : Nat} {b : Bk} (h : b.ks[k]?.getD 0 ≠ 1) : Bk.pls i b (k + 1) = Bk.pls i b k := by
  unfold Bk.pls; rw [List.range_succ, List.filterMap_append]; simp [h]
theorem plsTo_succ {bs : List Bk} {i : Nat} {x : Bk} (h : bs[i]? = some x) : plsTo bs (i + 1) = plsTo bs i ++ Bk.pls i x 8 := by
  unfold plsTo; rw [List.range_succ, List.flatMap_append]; simp [h]
theorem pls_len (i : Nat) (b : Bk) (k : Nat) : (Bk.pls i b k).length ≤ k := by
  unfold Bk.pls; exact Nat.le_trans (List.length_filterMap_le _ _) (by simp)
theorem plsTo_none {bs : List Bk} {i : Nat} (h : bs[i]? = none) : plsTo bs (i + 1) = plsTo bs i := by
  unfold plsTo; rw [List.range_succ, List.flatMap_append]; simp [h]
theorem plsTo_len (bs : List Bk) : ∀ i, (plsTo bs i).length ≤ 8 * i
  | 0 => by simp [plsTo]
  | i + 1 => by
    have := plsTo_len bs i
    cases h : bs[i]? with
    | none => rw [plsTo_none h]; omega
    | some x => rw [plsTo_succ h, List.length_append]; have := pls_len i x 8; omega
theorem pls_pre (i : Nat) (b : Bk) (k : Nat) : ∀ d, ∃ s, Bk.pls i b k ++ s = Bk.pls i b (k + d)
  | 0 => ⟨[], by simp⟩
  | d + 1 => by
    obtain ⟨s, hs⟩ := pls_pre i b k d
    by_cases h : b.ks[k + d]?.getD 0 = 1
    · exact ⟨s ++ _, by rw [show k + (d + 1) = (k + d) + 1 from rfl, pls_yes h, ← hs, List.append_assoc]⟩
    · exact ⟨s, by rw [show k + (d + 1) = (k + d) + 1 from rfl, pls_no h, hs]⟩
theorem plsTo_pre (bs : List Bk) (i : Nat) : ∀ d, ∃ s, plsTo bs i ++ s = plsTo bs (i + d)
  | 0 => ⟨[], by simp⟩
  | d + 1 => by
    obtain ⟨s, hs⟩ := plsTo_pre bs i d
    rw [show i + (d + 1) = (i + d) + 1 from rfl]
    cases h : bs[i + d]? with
    | none => exact ⟨s, by rw [plsTo_none h, hs]⟩
    | some x => exact ⟨s ++ _, by rw [plsTo_succ h, ← hs, List.append_assoc]⟩
theorem pre_pls {bs : List Bk} {i k : Nat} {x : Bk} (hx : bs[i]? = some x) (hk : k ≤ 8) : ∃ s, plsTo bs i ++ Bk.pls i x k ++ s = plsOf bs := by
  obtain ⟨s, hs⟩ := pls_pre i x k (8 - k)
  rw [show k + (8 - k) = 8 by omega] at hs
  have hi : i < bs.length := (List.getElem?_eq_some_iff.1 hx).1
  obtain ⟨t, ht⟩ := plsTo_pre bs (i + 1) (bs.length - (i + 1))
  rw [show i + 1 + (bs.length - (i + 1)) = bs.length by omega] at ht
  refine ⟨s ++ t, ?_⟩
  rw [plsOf, ← ht, plsTo_succ hx, ← hs]
  simp [List.append_assoc]

/-- blocks' memory is as it was -/
def KeepB (W W' : World) : Prop := ∀ k c, At W k c 55 → At W' k c 55
theorem keepB_t {A B C : World} (h : KeepB A B) (k : KeepB B C) : KeepB A C := fun i c hA => k i c (h i c hA)
theorem keepB_b {w : World} (W : World) (l : Nat) (o o' : Obj) (_ : w.heap.size ≤ l) (h : W.heap[l]? = some o) (hc : o.isCells = false) (_ : o.isWalk = false) : KeepB W (W.putObj l o') := fun _ _ hA => at_putObj hA h hc
theorem keepB_below {W W' : World} (h : Below W.heap.size W W') : KeepB W W' := fun _ _ hA => hA.of_below h
theorem keepB_same {W W' : World} {g : Nat} {c : List Value} {t : TypeId} (hA : At W g c t) (ht : t ≠ 55) (hs : Same g W W') : KeepB W W' := fun k c' hk => hs.at hk (fun e => by
  subst e
  have h1 := hA.heap
  rw [hk.heap] at h1
  cases h1
  exact ht rfl)
theorem keepB_refl (W : World) : KeepB W W := fun _ _ h => h
/-- a slice of blocks, in memory of blocks -/
def Blt (w : World) (v : Value) (bs : List Bk) : Prop :=
  (v = .slice none 0 0 ∧ bs = []) ∨ ∃ b off cap cs, v = .slice (some ⟨b, off, none⟩) bs.length cap ∧ bs.length ≤ cap ∧ cap ≤ 9223372036854775807 ∧ (∀ x ∈ bs, x.ok) ∧ At w b cs 55 ∧ ∀ j, j < 66 * bs.length → cs[off + j]? = (bksCells bs)[j]?
theorem Blt.bl {w : World} {v : Value} {bs : List Bk} (h : Blt w v bs) : Bl w v bs := by
  rcases h with h | ⟨b, off, cap, cs, h1, h2, h3, h4, h5, h6⟩
  · exact .inl h
  · exact .inr ⟨b, off, cap, h1, h2, h3, h5.lt, h4, fun j hj => by rw [h5.cell]; exact h6 j hj⟩
theorem Blt.keep {w w' : World} {v : Value} {bs : List Bk} (h : Blt w v bs) (k : KeepB w w') : Blt w' v bs := by
  rcases h with h | ⟨b, off, cap, cs, h1, h2, h3, h4, h5, h6⟩
  · exact .inl h
  · exact .inr ⟨b, off, cap, cs, h1, h2, h3, h4, k _ _ h5, h6⟩
theorem Blt.shape {w : World} {v : Value} {bs : List Bk} (h : Blt w v bs) : ∃ a c, v = .slice a bs.length c := h.bl.shape
theorem Blt.of_own {w : World} {base : Nat} {v : Value} {bs : List Bk} (h : w.ownsRow base 55 66 v bs.length (bksCells bs)) (hok : ∀ b ∈ bs, b.ok) : Blt w v bs := by
  rcases h.2 with ⟨rfl, h0⟩ | ⟨g, cap, cur, rfl, hb, hg, hn, hm, _, ht⟩
  · exact .inl ⟨rfl, List.length_eq_zero_iff.1 h0⟩
  · have hA : At w g cur.toList 55 := by unfold At; simpa using hg
    refine .inr ⟨g, 0, cap, cur.toList, rfl, hn, by simp only [maxLen] at hm; omega, hok, hA, fun j hj => ?_⟩
    rw [Nat.zero_add, ← hA.cell]
    exact World.ownsRow.cellAt h j (by omega)
theorem Blt.at {w : World} {v : Value} {bs : List Bk} (h : Blt w v bs) {i : Nat} {x : Bk} (hi : bs[i]? = some x) : x.ok ∧ ∃ b off cap, v = .slice (some ⟨b, off, none⟩) bs.length cap ∧ w.rangeAt b (off + i * 66) x.cells := by
  obtain ⟨h1, b, off, cap, h2, h3, h4⟩ := h.bl.block hi
  exact ⟨h1, b, off, cap, h2, h4 w (Below.refl _ _)⟩
theorem bk_page_at {b : Bk} (h : b.ok) {k : Nat} (hk : k < 8) : ((b.cells.drop (10 + k * 7)).take 7) = (b.ps[k]?.getD Pg.zero).cells := by
  have hp : b.ps[k]? = some (b.ps[k]?.getD Pg.zero) := by
    rw [List.getElem?_eq_getElem (by rw [h.ps]; exact hk)]; rfl
  have h1 := bk_pages (h := b.h) (c := b.c) h.ks h.ps
  have h2 := flat_at hp
  unfold Bk.cells
  rw [← h1] at h2
  rw [← h2, List.drop_take, List.drop_drop, List.take_take, show min 7 (56 - k * 7) = 7 by omega]
theorem at_range {w : World} {g : Nat} {c : List Value} {t : TypeId} (h : At w g c t) {o n : Nat} {cs : List Value} (hc : (c.drop o).take n = cs) : w.rangeAt g o cs := by
  intro j u hu
  subst hc
  rw [h.cell, ← List.getElem?_drop]
  rw [List.getElem?_take] at hu
  split at hu
  · exact hu
  · cases hu
theorem grown_below {W W' : World} (hb : Below W.heap.size W W') : W.grownBy W' none := ⟨hb.os, hb.tape, hb.output, hb.size, fun k hk _ => hb.block k hk⟩

set_option maxRecDepth 100000 in
theorem all1_in (l B1 : Nat) (sv : Value) (bs : List Bk) (hlen : bs.length ≤ 1000) (tB : TypeId) (J Jx : List Pl → World → Prop) (W : World) (hJo : AbidesFrom W.heap.size J)
    (hY : ∀ (pre : List Pl) (x : Pl) W, J pre W → pre.length < 8 * bs.length → x.ok → YieldAt Fence.wide 8 Try.prog l #[.agg x.cells.toArray] W fun e W' =>
      (e = .returned (.bool true) ∧ J (pre ++ [x]) W' ∧ KeepB W W') ∨ (e = .returned (.bool false) ∧ Jx (pre ++ [x]) W'))
    (h1 : At W B1 [sv] tB) (h2 : Blt W sv bs) (h0 : J [] W) :
    CallsIn Fence.wide 9 Try.prog 34 #[.func (.yield l) #[] #[], .pointer (some ⟨B1, 0, none⟩)] W fun e W' => (∃ v, e = .returned v) ∧
      ((∃ ys, ys = plsOf bs ∧ J ys W') ∨ (∃ pre, (∃ s, pre ++ s = plsOf bs) ∧ Jx pre W')) := by
  refine callsIn_of_wp Try.func34 rfl trivial ?_ rfl
  simp only [Try.ntmps34, List.size_toArray, List.length_cons, List.length_nil, Nat.reduceAdd, Nat.reduceSub, Array.replicate_succ, Array.replicate_zero, List.push_toArray, List.append_toArray, List.nil_append, List.cons_append]
  have Hi66 : Hid ((Try.prog.info? 55).map (·.size) = some 66) := by unfold Hid; kernel_rfl
  have Hi8 : Hid ((Try.prog.info? 45).map (·.size) = some 8) := by unfold Hid; kernel_rfl
  have Hi7 : Hid ((Try.prog.info? 27).map (·.size) = some 7) := by unfold Hid; kernel_rfl
  have Hi1 : Hid ((Try.prog.info? 3).map (·.size) = some 1) := by unfold Hid; kernel_rfl
  have hc1 : W.cell? ⟨B1, 0, none⟩ = some sv := h1.cell 0
  obtain ⟨a, cp, rfl⟩ := h2.shape
  have HJo := Lib.hid hJo; have HY := Lib.hid hY; have H2 := Lib.hid h2; have H0 := Lib.hid h0
  clear hJo hY h1 h2 h0
  gi_wp2
  gi_loopw [9] (fun i wr => ∃ k : Nat, k ≤ bs.length ∧ i = .int .i64 k ∧ J (plsTo bs k) wr ∧ Blt wr (.slice a bs.length cp) bs) (fun i _ => bs.length - (intOf i).toNat)
  case atStart => exact ⟨0, by omega, rfl, H0.out, H2.out⟩
  case round =>
    obtain ⟨wo, rfl⟩ : ∃ wo : World, wo = wr := ⟨_, rfl⟩
    obtain ⟨i, hi, rfl, hJ, hB⟩ := hrel
    have HJ := Lib.hid hJ; have HB := Lib.hid hB; clear hJ hB
    by_cases hlt : i < bs.length
    · obtain ⟨x, hx⟩ : ∃ x, bs[i]? = some x := ⟨_, List.getElem?_eq_getElem hlt⟩
      obtain ⟨hok, b, off, cap, hv, hr⟩ := HB.out.at hx
      simp only [Value.slice.injEq] at hv
      obtain ⟨rfl, _, rfl⟩ := hv
      have Hx := Lib.hid hx; have Hok := Lib.hid hok; have Hr := Lib.hid hr; clear hx hok hr
      gi_wp2_with (first
        | (refine ld_in rfl rfl rfl Hr.out Try.underlying55 rfl (by rw [Bk.cells_length Hok.out]; exact Hi66.out) ?_)
        | (refine al_in rfl rfl (zero_block _) ?_; intro w2 hn2; have HN2 := Lib.hid hn2; clear hn2)
        | (refine st_agg_in rfl rfl rfl rfl HN2.out.to 66 Hi66.out (Bk.cells_length Hok.out) (by decide) Bk.one ?_; intro w3 hu3
           have HA3 : Hid (At w3 wo.heap.size x.cells 55) := Lib.hid (by have h := hu3.to; rw [List.take_zero, List.nil_append, show bk0.drop (0 + 66) = [] from rfl, List.append_nil] at h; exact h)
           have HL3 : Hid (Below wo.heap.size wo w3) := Lib.hid ((HN2.out.below (Nat.le_refl _)).trans (hu3.below (Nat.le_refl _)))
           have HJ3 : Hid (J (plsTo bs i) w3) := Lib.hid (HJo.out _ _ _ none HJ.out (grown_below HL3.out) (fun r e => by cases e))
           have HB3 : Hid (Blt w3 (.slice (some ⟨b, off, none⟩) bs.length cp) bs) := Lib.hid (HB.out.keep (keepB_below HL3.out))
           clear hu3)
        | (refine ld_agg_in rfl rfl rfl HA3.out Try.underlying45 rfl 8 Hi8.out (by rw [Bk.cells_length Hok.out]; decide) ?_; rw [show (x.cells.drop 2).take 8 = x.ks.map (.int .i64) from bk_kinds Hok.out.ks])
        | fail)
      obtain ⟨g, hg⟩ : ∃ g, wo.heap.size = g := ⟨_, rfl⟩
      rw [hg] at HA3 ⊢
      gi_loopw [16] (fun j wr => ∃ k : Nat, k ≤ 8 ∧ j = .int .i64 k ∧ J (plsTo bs i ++ Bk.pls i x k) wr ∧ Blt wr (.slice (some ⟨b, off, none⟩) bs.length cp) bs ∧ At wr g x.cells 55) (fun j _ => 8 - (intOf j).toNat)
      case atStart => exact ⟨0, by omega, rfl, by rw [pls_zero, List.append_nil]; exact HJ3.out, HB3.out, HA3.out⟩
      case round =>
        obtain ⟨k, hk, rfl, hJ, hB, hA⟩ := hrel
        clear hg HJ HB HJ3 HB3 HA3 HN2 HL3 Hr
        have HJ := Lib.hid hJ; have HB := Lib.hid hB; have HA := Lib.hid hA; clear hJ hB hA
        by_cases hk8 : k < 8
        · obtain ⟨kv, hkv⟩ : ∃ kv, x.ks[k]? = some kv := ⟨_, List.getElem?_eq_getElem (by rw [Hok.out.ks]; exact hk8)⟩
          have Hkv := Lib.hid hkv
          have Hkv1 : Hid ((x.ks.map (Value.int .i64))[k]? = some (.int .i64 kv)) := Lib.hid (by rw [List.getElem?_map, hkv]; rfl)
          have Hkd : Hid (x.ks[k]?.getD 0 = kv) := Lib.hid (by rw [hkv]; rfl)
          clear hkv
          by_cases hk1 : kv = 1
          · have hb1 : (kv == 1) = true := by rw [beq_iff_eq]; exact hk1
            have Hk1 := Lib.hid hk1; clear hk1
            have Hrg : Hid (wr.rangeAt g (10 + k * 7) (x.ps[k]?.getD Pg.zero).cells) := Lib.hid (at_range HA.out (bk_page_at Hok.out hk8))
            obtain ⟨p, hp⟩ : ∃ p, x.ps[k]?.getD Pg.zero = p := ⟨_, rfl⟩
            rw [hp] at Hrg
            have Hp := Lib.hid hp; clear hp
            have hY2 := HY.out (plsTo bs i ++ Bk.pls i x k) ⟨i, k, p⟩ wr HJ.out (by have h1 := plsTo_len bs i; have h2 := pls_len i x k; rw [List.length_append]; omega) ⟨by show i ≤ 1000000; omega, by show k ≤ 1000000; omega, by
              show p.ok
              rw [← Hp.out, List.getElem?_eq_getElem (by rw [Hok.out.ps]; exact hk8)]
              exact Hok.out.pr _ (List.getElem_mem _)⟩
            obtain ⟨fn, tmps, assign, body, hy, hR⟩ := hY2
            have HR := Lib.hid hR; clear hR
            have hy : (Instr.yield l #[.agg (Pl.cells ⟨i, k, p⟩).toArray]).run Try.prog wr = .ok (.round l fn tmps assign body) wr := hy
            gi_wp2_with (first
              | (refine ix1_in rfl rfl rfl rfl Try.underlying45 Try.underlying3 rfl hk8 Hi1.out Hkv1.out ?_)
              | (refine ld_in rfl rfl rfl Hrg.out Try.underlying27 rfl Hi7.out ?_)
              | (refine bd_in rfl rfl rfl (cells := (Pl.cells ⟨i, k, p⟩).toArray) (by kernel_rfl) ?_)
              | fail)
            have hyes : Bk.pls i x (k + 1) = Bk.pls i x k ++ [⟨i, k, p⟩] := by rw [pls_yes (by rw [Hkd.out]; exact Hk1.out), Hp.out]
            have Hyes := Lib.hid hyes; clear hyes hy
            refine HR.out.mono ?_
            rintro e W3 (⟨rfl, hJ3, hk3⟩ | ⟨rfl, hJx3⟩)
            · have HJ3 : Hid (J (plsTo bs i ++ Bk.pls i x (k + 1)) W3) := Lib.hid (by rw [Hyes.out, ← List.append_assoc]; exact hJ3)
              have HB3 := Lib.hid (HB.out.keep hk3); have HA3 := Lib.hid (hk3 _ _ HA.out)
              clear hJ3 hk3
              gi_wp2
              go_roundw
              case rel => exact ⟨k + 1, by omega, by go_num, HJ3.out, HB3.out, HA3.out⟩
              case measure => simp only [intOf]; omega
            · have HJx : Hid (Jx (plsTo bs i ++ Bk.pls i x (k + 1)) W3) := Lib.hid (by rw [Hyes.out, ← List.append_assoc]; exact hJx3)
              clear hJx3
              gi_wp2
              refine bodyPost_ret (results_none rfl _ _ _) rfl ?_
              exact ⟨⟨_, rfl⟩, .inr ⟨_, pre_pls Hx.out (by omega), HJx.out⟩⟩
          · have hb1 : (kv == 1) = false := by rw [beq_eq_false_iff_ne]; exact hk1
            have Hno := Lib.hid (pls_no (i := i) (k := k) (b := x) (by rw [Hkd.out]; exact hk1)); clear hk1
            gi_wp2_with (first
              | (refine ix1_in rfl rfl rfl rfl Try.underlying45 Try.underlying3 rfl hk8 Hi1.out Hkv1.out ?_)
              | fail)
            refine ⟨(fun f h => by cases h), ?_⟩
            gi_wp2_with fail
            go_roundw
            case rel => exact ⟨k + 1, by omega, by go_num, by rw [Hno.out]; exact HJ.out, HB.out, HA.out⟩
            case measure => simp only [intOf]; omega
        · obtain rfl : k = 8 := by omega
          have Hst := Lib.hid (plsTo_succ Hx.out)
          gi_wp2
          go_roundw
          case rel => exact ⟨i + 1, by omega, by go_num, by rw [Hst.out]; exact HJ.out, HB.out⟩
          case measure => simp only [intOf]; omega
    · obtain rfl : i = bs.length := by omega
      gi_wp2
      go_end0
      exact ⟨⟨_, rfl⟩, .inl ⟨_, rfl, HJ.out⟩⟩
theorem all_in (sv : Value) (n : Nat) (w : World) :
    CallsIn Fence.wide n Try.prog 22 #[sv] w fun e w' => e = .returned (.func (.func 34) #[] #[.pointer (some ⟨w.heap.size, 0, none⟩)]) ∧ New w w' (.cells sv.cells 43) := by
  refine callsIn_of_wp Try.func22 rfl trivial ?_ rfl
  simp only [Try.ntmps22, List.size_toArray, List.length_cons, List.length_nil, Nat.reduceAdd, Nat.reduceSub, Array.replicate_succ, Array.replicate_zero, List.push_toArray, List.append_toArray, List.nil_append, List.cons_append]
  gi_wp2_with (first
    | (refine bx_in rfl rfl rfl ?_; intro w2 hn2; have HN2 := Lib.hid hn2; clear hn2)
    | fail)
  go_ret
  exact ⟨rfl, HN2.out⟩
theorem all_stops (B1 : Nat) (sv : Value) (bs : List Bk) (hlen : bs.length ≤ 1000) (tB : TypeId) (w : World) (h1 : At w B1 [sv] tB) (h2 : Blt w sv bs) :
    SeqStopsK Fence.wide 9 Try.prog 34 #[.pointer (some ⟨B1, 0, none⟩)] plEnc KeepB (fun ys => pv ys = plsOf bs) (fun pre => ∃ s, pv pre ++ s = plsOf bs) (8 * bs.length) w := by
  intro l J Jx W hW hJ _ hY h0
  have h2' : Blt W sv bs := by
    rcases h2 with h | ⟨b, off, cap, cs, a1, a2, a3, a4, a5, a6⟩
    · exact .inl h
    · exact .inr ⟨b, off, cap, cs, a1, a2, a3, a4, a5.of_below hW, a6⟩
  refine (all1_in l B1 sv bs hlen tB (fun pre V => ∃ pre', pv pre' = pre ∧ J pre' V) (fun pre V => ∃ pre', pv pre' = pre ∧ Jx pre' V) W (fun s V V' row hs hg hr => by obtain ⟨p', h3, h4⟩ := hs; exact ⟨p', h3, hJ p' V V' row h4 hg hr⟩) ?_ (h1.of_below hW) h2' ⟨[], rfl, h0⟩).mono ?_
  · rintro pre x V ⟨p', rfl, h4⟩ hl hx
    obtain ⟨fn, tmps, assign, body, hy, hR⟩ := hY p' ⟨x, hx⟩ V h4 (by rw [pv_len] at hl; exact hl)
    refine ⟨fn, tmps, assign, body, hy, hR.mono ?_⟩
    rintro e V' (⟨rfl, h5, h6⟩ | ⟨rfl, h5⟩)
    · exact .inl ⟨rfl, ⟨_, pv_snoc _ _, h5⟩, h6⟩
    · exact .inr ⟨rfl, _, pv_snoc _ _, h5⟩
  · rintro e V ⟨hv, (⟨ys, rfl, p', h3, h4⟩ | ⟨pre, ⟨t, ht⟩, p', rfl, h4⟩)⟩
    · exact ⟨hv, .inl ⟨p', h3, h4⟩⟩
    · exact ⟨hv, .inr ⟨p', ⟨t, ht⟩, h4⟩⟩
end Go.Proofs.Ytihlbfbplmehiaa
