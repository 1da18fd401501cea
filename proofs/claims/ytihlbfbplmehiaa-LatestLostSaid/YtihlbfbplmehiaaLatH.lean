/- Walks of package slices at places: CompactFunc. -/
import Derived.Test.YtihlbfbplmehiaaLatG
import Derived.IntWalk
namespace Go.Proofs.Ytihlbfbplmehiaa
open Go.RowKit Go.Shelf
set_option maxHeartbeats 4000000

/-- is the i-th place of another sector than the one ahead of it? -/
def kept (l : List Pl) (i : Nat) : Bool := i == 0 || decide ((l[i]?.map (·.p.s)) ≠ (l[i - 1]?.map (·.p.s)))
def cpTo (l : List Pl) : Nat → List Pl
  | 0 => []
  | n + 1 => if kept l n then cpTo l n ++ (l[n]?).toList else cpTo l n
def cp (l : List Pl) : List Pl := cpTo l l.length
theorem cpTo_len (l : List Pl) : ∀ n, (cpTo l n).length ≤ n
  | 0 => Nat.le_refl _
  | n + 1 => by
    have := cpTo_len l n
    unfold cpTo
    split
    · rw [List.length_append]
      have : (l[n]?).toList.length ≤ 1 := by cases l[n]? <;> simp
      omega
    · omega
theorem cpTo_take {l : List Pl} : ∀ {n : Nat}, n ≤ l.length → (∀ i, i < n → kept l i = true) → cpTo l n = l.take n
  | 0, _, _ => by simp [cpTo]
  | n + 1, h, hk => by
    unfold cpTo
    rw [if_pos (hk n (by omega)), cpTo_take (by omega) (fun i hi => hk i (by omega)), List.take_add_one]
theorem cpTo_no {l : List Pl} {n : Nat} (h : kept l n = false) : cpTo l (n + 1) = cpTo l n := by rw [cpTo, if_neg (by rw [h]; decide)]
theorem cpTo_yes {l : List Pl} {n : Nat} {x : Pl} (h : kept l n = true) (hx : l[n]? = some x) : cpTo l (n + 1) = cpTo l n ++ [x] := by rw [cpTo, if_pos h, hx]; rfl
theorem kept_no {l : List Pl} {j : Nat} {x y : Pl} (hx : l[j + 1]? = some x) (hy : l[j]? = some y) (h : x.p.s = y.p.s) : kept l (j + 1) = false := by unfold kept; simp [hx, hy, h]
theorem kept_yes {l : List Pl} {j : Nat} {x y : Pl} (hx : l[j + 1]? = some x) (hy : l[j]? = some y) (h : x.p.s ≠ y.p.s) : kept l (j + 1) = true := by unfold kept; simp [hx, hy, h]

set_option maxRecDepth 100000 in
theorem eqS_any (x y : Pl) (w : World) : Calls Try.prog 25 #[.agg x.cells.toArray, .agg y.cells.toArray] w fun e w' => e = .returned (.bool (x.p.s == y.p.s)) ∧ Below w.heap.size w w' := by
  go_enter Try.func25, Try.ntmps25
  go_wp2_with (first
    | (refine bx_o (ty := 29) rfl (v := .agg x.cells.toArray) rfl rfl ?_; intro w1 hn1
       have HA1 : Hid (At w1 w.heap.size x.cells 29) := Lib.hid hn1.to; have HB1 := Lib.hid (hn1.below (Nat.le_refl _)); clear hn1)
    | (refine bx_o (ty := 29) rfl (v := .agg y.cells.toArray) rfl rfl ?_; intro w2 hn2
       have HX2 := Lib.hid (hn2.at HA1.out)
       have HY2 : Hid (At w2 w1.heap.size y.cells 29) := Lib.hid hn2.to
       have c2 : w2.cell? ⟨w.heap.size, 2, none⟩ = some (.int .u32 x.p.s) := HX2.out.cell 2
       have d2 : w2.cell? ⟨w1.heap.size, 2, none⟩ = some (.int .u32 y.p.s) := HY2.out.cell 2
       have HB2 := Lib.hid (HB1.out.trans (hn2.below HB1.out.size)); clear hn2)
    | fail)
  go_ret
  exact ⟨rfl, HB2.out⟩

theorem rng_load {P : Program} {w : World} {b o n : Nat} {cs : List Value} {ty : TypeId} {d : TypeDesc} (hr : w.rangeAt b o cs) (hu : P.underlying ty = some d) (hd : d.isRow = true) (hi : (P.info? ty).map (·.size) = some n) (hn : cs.length = n) (k : Nat) :
    (loadVar ty ⟨b, o, none⟩).run P (w.drewN k) = .ok (.agg cs.toArray) (w.drewN k) :=
  run_loadVar_mid (w.drewN k) b o ty cs d (fun j v hv => hr j v hv) hu hd (by rw [hi, hn])
/-- an element of a row of places -/
theorem row_at {w : World} {g i o : Nat} {cs : List Value} {t : TypeId} {x : Pl} (hA : At w g cs t) (hx : (cs.drop (9 * i)).take 9 = x.cells) (ho : o = 9 * i) : w.rangeAt g o x.cells := by subst ho; exact at_range hA hx
theorem take_el {l : List Pl} {cs : List Value} {n i : Nat} {x : Pl} (h : cs.take (9 * n) = plsCells (l.take n)) (hi : i < n) (hx : l[i]? = some x) : (cs.drop (9 * i)).take 9 = x.cells := by
  have h1 := plsCells_at (l := l.take n) (i := i) (x := x) (by rw [List.getElem?_take, if_pos hi]; exact hx)
  rw [← h, List.drop_take, List.take_take] at h1
  rw [← h1]
  congr 1
  omega
theorem plsCells_take (l : List Pl) : ∀ k, (plsCells l).take (9 * k) = plsCells (l.take k) := by
  unfold plsCells
  induction l with
  | nil => intro k; simp
  | cons x l ih =>
    intro k
    cases k with
    | zero => simp
    | succ k =>
      rw [List.flatMap_cons, List.take_succ_cons, List.flatMap_cons, show 9 * (k + 1) = x.cells.length + 9 * k by rw [pl_len']; omega, List.take_length_add_append, ih]
/-- a slice's elements are cleared -/
theorem cl_run {P : Program} {ops : Array Oper} {rest : List Oper} {op : Oper} {a : Act} {w : World} {Q : Exit → Act → World → Prop} (hw : Region.wanted op (yielded ops a.tmps) = true) {x : Operand} {t e tt : TypeId} (ho : op.op = .call { callee := .builtin .clear, args := #[x], argTypes := #[t] }) {g o m c : Nat} (hx : a.eval x = .slice (some ⟨g, o, none⟩) m c)
    (hu : P.underlying t = some (.slice e)) {zc : List Value} (hz : ∀ w, (zeroValue e).run P w = .ok (.agg zc.toArray) w) (h9 : zc.length = 9) (hz1 : ∀ v ∈ zc, v.oneCell' = true) {cs : List Value} (hA : At w g cs tt) (hl : o + m * 9 ≤ cs.length)
    (h : ∀ w2 zs, zs.length = m * 9 → Upd w w2 g (.cells (cs.take o ++ zs ++ cs.drop (o + m * 9)).toArray tt) → wpList P ops Q rest (a.put op.dst (.tuple #[])) w2) : wpList P ops Q (op :: rest) a w := by
  by_cases hm : m = 0
  · subst hm
    have hr : (Builtin.clear_ #[t] op.type #[.slice (some ⟨g, o, none⟩) 0 c]).run P w = .ok (.tuple #[]) w := by
      simp [Builtin.clear_, run_underlying hu]
    refine op_run hw (by simp only [execOp, ho, resolve, invoke, builtin]; simp [hx, hr, Result.andThen]) (h w [] rfl ?_)
    refine ⟨rfl, rfl, rfl, rfl, ?_, fun _ _ => rfl⟩
    have := hA.heap
    rw [Nat.zero_mul, Nat.add_zero, List.append_nil, List.take_append_drop]
    exact this
  · have hzl : (Builtin.zeroCells zc.toArray m).toList.length = m * 9 := by rw [Array.length_toList, size_zeroCells, List.size_toArray, h9]
    have hst := run_storeCells_cells (P := P) g o (Builtin.zeroCells zc.toArray m).toList 0 w (fun j hj => by
      rw [hA.cell, List.getElem?_eq_getElem (by omega)]; rfl) (fun j hj => hA.frozen _) (fun v hv => by
      rw [Builtin.zeroCells] at hv
      simp only [Array.toList_map, List.mem_map] at hv
      obtain ⟨k, _, rfl⟩ := hv
      have hk : k % zc.toArray.size < zc.length := by rw [List.size_toArray, h9]; exact Nat.mod_lt _ (by decide)
      refine hz1 _ ?_
      rw [getElem!_pos _ _ (by simpa using hk)]
      simp)
    rw [Nat.add_zero] at hst
    have hr : (Builtin.clear_ #[t] op.type #[.slice (some ⟨g, o, none⟩) m c]).run P w = .ok (.tuple #[]) (w.setCells g o (Builtin.zeroCells zc.toArray m).toList) := by
      obtain ⟨m', rfl⟩ : ∃ m', m = m' + 1 := ⟨m - 1, by omega⟩
      simp [Builtin.clear_, run_underlying hu, hz w, Value.cells, hst]
    have hup := setCells_at g tt (Builtin.zeroCells zc.toArray m).toList o w cs hA (by rw [hzl]; exact hl)
    rw [hzl] at hup
    exact op_run hw (by simp only [execOp, ho, resolve, invoke, builtin]; simp [hx, hr, Result.andThen]) (h _ _ hzl hup)

set_option maxRecDepth 100000 in
theorem compact_small {base : Nat} {v : Value} {l : List Pl} (hl : l.length < 2) (w : World) (h : w.ownsRow base 29 9 v l.length (plsCells l)) :
    Calls Try.prog 24 #[v, .func (.func 25) #[] #[]] w fun e w' => (∃ v', e = .returned v' ∧ w'.ownsRow base 29 9 v' (cp l).length (plsCells (cp l))) ∧ Below base w w' := by
  have hcp : cp l = l := by
    unfold cp
    rw [cpTo_take (Nat.le_refl _) (fun i hi => by
      have : i = 0 := by omega
      subst this; rfl), List.take_length]
  rw [hcp]
  have H := Lib.hid h
  obtain ⟨a, c, rfl⟩ : ∃ a c, v = .slice a l.length c := by
    rcases h.2 with ⟨rfl, h0⟩ | ⟨g, cap, cur, rfl, _⟩
    · exact ⟨none, 0, by rw [h0]⟩
    · exact ⟨_, _, rfl⟩
  clear h hcp
  have hd : decide ((l.length : Int) < 2) = true := decide_eq_true (by omega)
  go_enter Try.func24, Try.ntmps24
  go_wp2_with fail
  go_ret
  exact ⟨⟨_, rfl, H.out⟩, Below.refl _ _⟩

set_option maxRecDepth 100000 in
theorem compact_big {base g cap : Nat} {cur : List Value} {l : List Pl} (hl : l.length ≤ 100000) (hl2 : 2 ≤ l.length) (hc : l.length ≤ cap) (hm : cap ≤ maxLen) (w : World) (hB : base ≤ w.heap.size) (hg : base ≤ g) (hA : At w g cur 29) (hcs : cur.length = cap * 9) (hx : cur.take (9 * l.length) = plsCells l) :
    Calls Try.prog 24 #[.slice (some ⟨g, 0, none⟩) l.length cap, .func (.func 25) #[] #[]] w fun e w' => (∃ v', e = .returned v' ∧ w'.ownsRow base 29 9 v' (cp l).length (plsCells (cp l))) ∧ Below base w w' := by
  have Hi9 : Hid ((Try.prog.info? 29).map (·.size) = some 9) := by unfold Hid; kernel_rfl
  have hmx : cap ≤ 9223372036854775807 := by simp only [maxLen] at hm; omega
  have Hm := Lib.hid hm
  have HA := Lib.hid hA; have Hcs := Lib.hid hcs; have Hx := Lib.hid hx; have HB := Lib.hid hB; have Hg := Lib.hid hg
  clear hA hcs hx hB hg hm
  have hd : decide ((l.length : Int) < 2) = false := decide_eq_false (by omega)
  have hz2 : l.length ≠ 0 := by omega
  go_enter Try.func24, Try.ntmps24
  go_wp2_with fail
  go_loopw [5] (fun i wr => ∃ j : Nat, j + 1 ≤ l.length ∧ i = .int .i64 ((j : Int) + 1) ∧ (∀ i, i < j + 1 → kept l i = true) ∧ At wr g cur 29 ∧ Below base w wr) (fun i _ => l.length - (intOf i).toNat)
  case atStart => exact ⟨0, by omega, rfl, (fun i hi => by have : i = 0 := by omega
                                                           subst this; rfl), HA.out, Below.refl _ _⟩
  case round =>
    obtain ⟨j, hj, rfl, hk, hA, hBl⟩ := hrel
    have HK := Lib.hid hk; have HA1 := Lib.hid hA; have HB1 := Lib.hid hBl; clear hk hA hBl
    by_cases hlt : j + 1 < l.length
    · have hlt' : (j : Int) + 1 < (l.length : Int) := by omega
      obtain ⟨x, hx⟩ : ∃ x, l[j + 1]? = some x := ⟨_, List.getElem?_eq_getElem hlt⟩
      obtain ⟨y, hy⟩ : ∃ y, l[j]? = some y := ⟨_, List.getElem?_eq_getElem (by omega)⟩
      have Hxx := Lib.hid hx; have Hyy := Lib.hid hy
      have h1 : (cur.drop (9 * (j + 1))).take 9 = x.cells := take_el (n := l.length) (by rw [List.take_length]; exact Hx.out) hlt hx
      have h2 : (cur.drop (9 * j)).take 9 = y.cells := take_el (n := l.length) (by rw [List.take_length]; exact Hx.out) (by omega) hy
      have HLx := Lib.hid (rng_load (P := Try.prog) (row_at HA1.out h1 (o := (j + 1) * 9) (by omega)) Try.underlying29 rfl Hi9.out (pl_len x))
      have HLy := Lib.hid (rng_load (P := Try.prog) (row_at HA1.out h2 (o := j * 9) (by omega)) Try.underlying29 rfl Hi9.out (pl_len y))
      clear hx hy h1 h2
      have f2 : (0 : Int) ≤ (j : Int) + 1 := by omega
      have f3 : ((j : Int) + 1).toNat = j + 1 := by omega
      have f4 : IntKind.i64.wrap ((j : Int) + 1 - 1) = (j : Int) := by rw [IntWalk.i64_in _ (by omega)]; omega
      have f5 : (j : Int) < (l.length : Int) := by omega
      have f6 : IntKind.i64.wrap (j : Int) = (j : Int) := IntWalk.i64_in _ (by omega)
      go_wp2_with fail
      refine wp_region_tail_drew 10 (by kernel_rfl) (by kernel_rfl) ?_
      simp only [List.take_succ_cons, List.take_zero, List.drop_succ_cons, List.drop_zero]
      iterate 4 (first | ((with_reducible refine wpQuiet_step (fun K' hK' => ?_)); go_simp; (with_reducible refine hK' _ ?_); clear hK' K') | ((with_reducible refine wpQuiet_skip ?_ ?_); focus rfl))
      refine wpQuiet_ld rfl rfl rfl (by rintro w' ⟨m', rfl⟩; exact HLx.out _) ?_
      iterate 4 (first | ((with_reducible refine wpQuiet_step (fun K' hK' => ?_)); go_simp; (with_reducible refine hK' _ ?_); clear hK' K') | ((with_reducible refine wpQuiet_skip ?_ ?_); focus rfl))
      refine wpQuiet_ld rfl rfl rfl (by rintro w' ⟨m', rfl⟩; exact HLy.out _) ?_
      refine wpQuiet_nil ?_
      rintro w' ⟨nq, rfl⟩
      have HA2 := Lib.hid (HA1.out.drewN nq); have HB2 : Hid (Below base w (wr.drewN nq)) := Lib.hid (bel_drewN HB1.out nq)
      by_cases hs : x.p.s = y.p.s
      · have hsb : (x.p.s == y.p.s) = true := by rw [beq_iff_eq]; exact hs
        have Hs := Lib.hid hs; clear hs
        go_wp2_with (first
          | (go_at_call 25; refine (eqS_any x y _).mono ?_; rintro e w2 ⟨rfl, hb2⟩
             have HA3 := Lib.hid (HA2.out.of_below hb2); have HB3 := Lib.hid (HB2.out.trans (hb2.mono (Nat.le_trans HB.out HB2.out.size))); clear hb2)
          | fail)
        clear hlt' f2 f3 f4 f5 f6 hsb
        have hcp0 : cpTo l (j + 2) = l.take (j + 1) := by
          show (if kept l (j + 1) then _ else _) = _
          rw [kept_no Hxx.out Hyy.out Hs.out]
          exact cpTo_take (by omega) HK.out
        have hst : (cpTo l (j + 1 + 1)).length = j + 1 ∧ cur.take (9 * (j + 1)) = plsCells (cpTo l (j + 1 + 1)) := by
          rw [hcp0]
          refine ⟨by rw [List.length_take]; omega, ?_⟩
          rw [← plsCells_take, ← Hx.out, List.take_take, show min (9 * (j + 1)) (9 * l.length) = 9 * (j + 1) by omega]
        have HST := Lib.hid hst
        clear hcp0 hst
        obtain ⟨n2, hn2⟩ : ∃ n2, l.length - (j + 1) = n2 := ⟨_, rfl⟩
        obtain ⟨c2, hc2⟩ : ∃ c2, cap - (j + 1) = c2 := ⟨_, rfl⟩
        rw [hn2, hc2]
        have hn3 : l.length = j + 1 + n2 := by omega
        have HN3 := Lib.hid hn3
        have hn6 : n2 ≤ 100000 := by omega
        have hn4 : 1 ≤ n2 := by omega
        clear hn2 hc2
        go_loopw [5, 7] (fun K i wr => ∃ d kk : Nat, d + 1 ≤ n2 ∧ i = .int .i64 ((d : Int) + 1) ∧ K = .int .i64 (kk : Int) ∧ kk = (cpTo l (j + 1 + (d + 1))).length ∧ kk ≤ j + 1 + d ∧ (∃ cs, At wr g cs 29 ∧ cs.length = cur.length ∧ cs.take (9 * kk) = plsCells (cpTo l (j + 1 + (d + 1))) ∧ cs.drop (9 * (j + 1 + d)) = cur.drop (9 * (j + 1 + d))) ∧ Below base w wr) (fun _ i _ => n2 - (intOf i).toNat)
        case atStart => exact ⟨0, j + 1, hn4, rfl, by simp, HST.out.1.symm, by omega, ⟨cur, HA3.out, rfl, HST.out.2, rfl⟩, HB3.out⟩
        case round =>
          obtain ⟨d, kk, hd1, rfl, rfl, hkk, hkl, ⟨cs, hA4, hcl, hct, hcd⟩, hB4⟩ := hrel
          have HA4 := Lib.hid hA4; have HB4 := Lib.hid hB4; have HCL := Lib.hid hcl; have HCT := Lib.hid hct; have HCD := Lib.hid hcd; have HKK := Lib.hid hkk
          clear hA4 hB4 hcl hct hcd hkk HA3 HB3 HA1 HB1 HA2 HB2
          by_cases hd2 : d + 1 < n2
          · have hn5 := HN3.out
            obtain ⟨x2, hx2⟩ : ∃ x, l[j + 1 + (d + 1)]? = some x := ⟨_, List.getElem?_eq_getElem (by omega)⟩
            obtain ⟨y2, hy2⟩ : ∃ y, l[j + 1 + d]? = some y := ⟨_, List.getElem?_eq_getElem (by omega)⟩
            have Hx2 := Lib.hid hx2; have Hy2 := Lib.hid hy2
            have h1 : (cs.drop (9 * (j + 1 + (d + 1)))).take 9 = x2.cells := by
              rw [show 9 * (j + 1 + (d + 1)) = 9 * (j + 1 + d) + 9 by omega, ← List.drop_drop, HCD.out, List.drop_drop, show 9 * (j + 1 + d) + 9 = 9 * (j + 1 + (d + 1)) by omega]
              exact take_el (n := l.length) (by rw [List.take_length]; exact Hx.out) (by omega) hx2
            have h2 : (cs.drop (9 * (j + 1 + d))).take 9 = y2.cells := by
              rw [HCD.out]
              exact take_el (n := l.length) (by rw [List.take_length]; exact Hx.out) (by omega) hy2
            have Hrx : Hid (wr.rangeAt g ((j + 1) * 9 + (d + 1) * 9) x2.cells) := Lib.hid (row_at HA4.out h1 (by omega))
            have HLx2 := Lib.hid (rng_load (P := Try.prog) Hrx.out Try.underlying29 rfl Hi9.out (pl_len x2))
            have HLy2 := Lib.hid (rng_load (P := Try.prog) (row_at HA4.out h2 (o := (j + 1) * 9 + d * 9) (by omega)) Try.underlying29 rfl Hi9.out (pl_len y2))
            clear hx2 hy2 h1 h2 hn3 hn4
            have e1 : (d : Int) + 1 < (n2 : Int) := by omega
            have e2 : (0 : Int) ≤ (d : Int) + 1 := by omega
            have e3 : ((d : Int) + 1).toNat = d + 1 := by omega
            have e4 : IntKind.i64.wrap ((d : Int) + 1 - 1) = (d : Int) := by rw [IntWalk.i64_in _ (by omega)]; omega
            have e5 : (d : Int) < (n2 : Int) := by omega
            have e6 : IntKind.i64.wrap (d : Int) = (d : Int) := IntWalk.i64_in _ (by omega)
            clear hn5
            go_wp2_with fail
            refine wp_region_tail_drew 10 (by kernel_rfl) (by kernel_rfl) ?_
            simp only [List.take_succ_cons, List.take_zero, List.drop_succ_cons, List.drop_zero]
            iterate 4 (first | ((with_reducible refine wpQuiet_step (fun K' hK' => ?_)); go_simp; (with_reducible refine hK' _ ?_); clear hK' K') | ((with_reducible refine wpQuiet_skip ?_ ?_); focus rfl))
            refine wpQuiet_ld rfl rfl rfl (by rintro w' ⟨m', rfl⟩; exact HLx2.out _) ?_
            iterate 4 (first | ((with_reducible refine wpQuiet_step (fun K' hK' => ?_)); go_simp; (with_reducible refine hK' _ ?_); clear hK' K') | ((with_reducible refine wpQuiet_skip ?_ ?_); focus rfl))
            refine wpQuiet_ld rfl rfl rfl (by rintro w' ⟨m', rfl⟩; exact HLy2.out _) ?_
            refine wpQuiet_nil ?_
            rintro w' ⟨nq, rfl⟩
            have HA5 := Lib.hid (HA4.out.drewN nq); have HB5 : Hid (Below base w (wr.drewN nq)) := Lib.hid (bel_drewN HB4.out nq)
            by_cases hs2 : x2.p.s = y2.p.s
            · have hsb : (x2.p.s == y2.p.s) = true := by rw [beq_iff_eq]; exact hs2
              have hno : cpTo l (j + 1 + (d + 1 + 1)) = cpTo l (j + 1 + (d + 1)) := cpTo_no (n := j + 1 + (d + 1)) (kept_no (j := j + 1 + d) Hx2.out Hy2.out hs2)
              have Hno := Lib.hid hno; clear hs2 hno
              go_wp2_with (first
                | (go_at_call 25; refine (eqS_any x2 y2 _).mono ?_; rintro e w2 ⟨rfl, hb2⟩
                   have HA6 := Lib.hid (HA5.out.of_below hb2); have HB6 := Lib.hid (HB5.out.trans (hb2.mono (Nat.le_trans HB.out HB5.out.size))); clear hb2)
                | fail)
              have hn5 := HN3.out
              refine ⟨?_, by simp only [intOf]; omega⟩
              exact ⟨d + 1, kk, by omega, by go_num, rfl, by rw [Hno.out]; exact HKK.out, by omega, ⟨cs, HA6.out, HCL.out, by rw [Hno.out]; exact HCT.out, by
                rw [show 9 * (j + 1 + (d + 1)) = 9 * (j + 1 + d) + 9 by omega, ← List.drop_drop, HCD.out, List.drop_drop]⟩, HB6.out⟩
            · have hsb : (x2.p.s == y2.p.s) = false := by rw [beq_eq_false_iff_ne]; exact hs2
              have hyes : cpTo l (j + 1 + (d + 1 + 1)) = cpTo l (j + 1 + (d + 1)) ++ [x2] := cpTo_yes (n := j + 1 + (d + 1)) (kept_yes (j := j + 1 + d) Hx2.out Hy2.out hs2) Hx2.out
              have Hyes := Lib.hid hyes; clear hs2 hyes
              have e7 : (kk : Int) < (l.length : Int) := by have := HN3.out; omega
              go_wp2_with (first
                | (go_at_call 25; refine (eqS_any x2 y2 _).mono ?_; rintro e w2 ⟨rfl, hb2⟩
                   have HA6 := Lib.hid (HA5.out.of_below hb2); have HB6 := Lib.hid (HB5.out.trans (hb2.mono (Nat.le_trans HB.out HB5.out.size)))
                   have Hrx6 : Hid (w2.rangeAt g ((j + 1) * 9 + (d + 1) * 9) x2.cells) := Lib.hid (fun i u hu => (hb2.cell (p := ⟨g, _, none⟩) HA5.out.lt).trans (Hrx.out i u hu))
                   clear hb2)
                | (refine ld_rng rfl rfl rfl Hrx6.out Try.underlying29 rfl Hi9.out ?_)
                | (refine st_agg rfl rfl rfl rfl HA6.out 9 Hi9.out (pl_len x2) (by rw [HCL.out, Hcs.out]; have := HN3.out; omega) (pl_one x2) ?_; intro w3 hu3
                   have HA7 := Lib.hid hu3.to
                   have HB7 : Hid (Below base w w3) := Lib.hid (HB6.out.trans (hu3.below Hg.out)); clear hu3)
                | fail)
              have hn5 := HN3.out
              have hlen : (cs.take (kk * 9)).length = kk * 9 := by rw [List.length_take, HCL.out, Hcs.out]; omega
              refine ⟨?_, by simp only [intOf]; omega⟩
              refine ⟨d + 1, kk + 1, by omega, by go_num, by go_num, by rw [Hyes.out, List.length_append, ← HKK.out]; rfl, by omega, ⟨_, HA7.out, ?_, ?_, ?_⟩, HB7.out⟩
              · simp only [List.length_append, List.length_drop, hlen, pl_len]
                rw [HCL.out, Hcs.out]
                omega
              · rw [Hyes.out, plsCells_snoc, List.take_append_of_le_length (by rw [List.length_append, hlen, pl_len]; omega), List.take_of_length_le (by rw [List.length_append, hlen, pl_len]; omega), ← HCT.out, Nat.mul_comm kk 9]
              · rw [List.drop_append, List.drop_eq_nil_of_le (by rw [List.length_append, hlen, pl_len]; omega), List.nil_append, List.length_append, hlen, pl_len, List.drop_drop]
                rw [show kk * 9 + 9 + (9 * (j + 1 + (d + 1)) - (kk * 9 + 9)) = 9 * (j + 1 + d) + 9 by omega, ← List.drop_drop, HCD.out, List.drop_drop]
                rfl
          · have hd3 : decide ((d : Int) + 1 < (n2 : Int)) = false := decide_eq_false (by omega)
            have hn5 := HN3.out
            have hend : cpTo l (j + 1 + (d + 1)) = cp l := by unfold cp; rw [show j + 1 + (d + 1) = l.length by omega]
            rw [hend] at HKK HCT
            have e7 : (kk : Int) ≤ (l.length : Int) := by omega
            have e8 : (kk : Int) ≤ (cap : Int) := by omega
            have e9 : ¬ cap = kk := by omega
            have e10 : kk * 9 + (l.length - kk) * 9 ≤ cs.length := by rw [HCL.out, Hcs.out]; omega
            have E10 := Lib.hid e10
            have e11 : kk ≤ cap := by omega
            have E11 := Lib.hid e11
            have e12 : kk * 9 ≤ cs.length := by omega
            have E12 := Lib.hid e12
            clear hend hn3 hn4 hn5 e10 e11 e12
            go_wp2_with (first
              | (refine cl_run rfl rfl rfl Try.underlying32 zero_place (pl_len _) (pl_one _) HA4.out E10.out ?_; intro w3 zs hz hu3
                 have HA5 : Hid (At w3 g (cs.take (kk * 9) ++ zs ++ cs.drop (kk * 9 + (l.length - kk) * 9)) 29) := Lib.hid hu3.to
                 have HB5 : Hid (Below base w w3) := Lib.hid (HB4.out.trans (hu3.below Hg.out))
                 have HZ := Lib.hid hz
                 clear hu3 hz)
              | fail)
            go_ret
            have hlen : (cs.take (kk * 9)).length = kk * 9 := by rw [List.length_take]; have := E12.out; omega
            refine ⟨⟨_, rfl, by rw [plsCells_len]; omega, .inr ⟨g, cap, _, by rw [HKK.out]; rfl, Hg.out, HA5.out.heap, by rw [← HKK.out]; exact E11.out, Hm.out, ?_, ?_⟩⟩, HB5.out⟩
            · simp only [List.size_toArray, List.length_append, hlen, HZ.out, List.length_drop]
              have := E10.out
              rw [HCL.out, Hcs.out] at *
              omega
            · rw [← HKK.out]
              show ((cs.take (kk * 9) ++ zs ++ _).take (kk * 9)) = _
              rw [List.append_assoc, List.take_append_of_le_length (by rw [hlen]; exact Nat.le_refl _), List.take_of_length_le (by rw [hlen]; exact Nat.le_refl _), ← HCT.out, Nat.mul_comm]
      · have hsb : (x.p.s == y.p.s) = false := by rw [beq_eq_false_iff_ne]; exact hs
        have Hy := Lib.hid (kept_yes Hxx.out Hyy.out hs); clear hs
        go_wp2_with (first
          | (go_at_call 25; refine (eqS_any x y _).mono ?_; rintro e w2 ⟨rfl, hb2⟩
             have HA3 := Lib.hid (HA2.out.of_below hb2); have HB3 := Lib.hid (HB2.out.trans (hb2.mono (Nat.le_trans HB.out HB2.out.size))); clear hb2)
          | fail)
        exact ⟨⟨j + 1, by omega, by go_num, (fun i hi => by
          rcases Nat.lt_or_ge i (j + 1) with h | h
          · exact HK.out i h
          · have : i = j + 1 := by omega
            subst this; exact Hy.out), HA3.out, HB3.out⟩, by simp only [intOf]; omega⟩
    · have hd2 : decide ((j : Int) + 1 < (l.length : Int)) = false := decide_eq_false (by omega)
      have hcp : cp l = l := by
        unfold cp
        rw [cpTo_take (Nat.le_refl _) (fun i hi => HK.out i (by omega)), List.take_length]
      have Hcp := Lib.hid hcp; clear hcp
      go_wp2_with fail
      go_ret
      rw [Hcp.out]
      exact ⟨⟨_, rfl, by rw [plsCells_len]; omega, .inr ⟨g, cap, cur.toArray, rfl, Hg.out, HA1.out.heap, hc, Hm.out, by simpa using Hcs.out, by rw [Nat.mul_comm]; exact Hx.out⟩⟩, HB1.out⟩

theorem compact_own {base : Nat} {v : Value} {l : List Pl} (hl : l.length ≤ 100000) (w : World) (hB : base ≤ w.heap.size) (h : w.ownsRow base 29 9 v l.length (plsCells l)) :
    Calls Try.prog 24 #[v, .func (.func 25) #[] #[]] w fun e w' => (∃ v', e = .returned v' ∧ w'.ownsRow base 29 9 v' (cp l).length (plsCells (cp l))) ∧ Below base w w' := by
  by_cases hs : l.length < 2
  · exact compact_small hs w h
  · rcases h.2 with ⟨rfl, h0⟩ | ⟨g, cap, cur, rfl, hg, hh, hn, hm, hcs, hx⟩
    · omega
    · exact compact_big (cur := cur.toList) hl (by omega) hn hm w hB hg (by unfold At; simpa using hh) (by simpa using hcs) (by rw [Nat.mul_comm]; exact hx)
end Go.Proofs.Ytihlbfbplmehiaa
