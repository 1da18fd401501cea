/- Walks of package latest: stands; cmp.Compare. -/
import Derived.Test.YtihlbfbplmehiaaLatB
import Derived.Test.YtihlbfbplmehiaaEqs
namespace Go.Proofs.Ytihlbfbplmehiaa
open Go.RowKit Go.Shelf
set_option maxHeartbeats 4000000

section
variable {P : Program} {ops : Array Oper} {rest : List Oper} {op : Oper} {a : Act} {w : World} {Q : Exit → Act → World → Prop}
/-- the laws with the operation ahead of its guard: a guard that is false is not run -/
theorem bx_o {ty : TypeId} {x : Operand} (ho : op.op = .box ty x) {v : Value} (hx : a.eval x = v) (hw : Region.wanted op (yielded ops a.tmps) = true)
    (h : ∀ w2, New w w2 (.cells v.cells ty) → wpList P ops Q rest (a.put op.dst (.pointer (some ⟨w.heap.size, 0, none⟩))) w2) : wpList P ops Q (op :: rest) a w := bx_new hw ho hx h
theorem ld_o {ty : TypeId} {x : Operand} (ho : op.op = .load ty x) {g o : Nat} (hx : a.eval x = .pointer (some ⟨g, o, none⟩)) {c : List Value} {t : TypeId} (hat : At w g c t) {d : TypeDesc}
    (hu : P.underlying ty = some d) (hd : d.isRow = true) (n : Nat) (hi : (P.info? ty).map (·.size) = some n) (hn : o + n ≤ c.length) (hw : Region.wanted op (yielded ops a.tmps) = true)
    (h : wpList P ops Q rest (a.put op.dst (.agg ((c.drop o).take n).toArray)) w) : wpList P ops Q (op :: rest) a w := ld_agg_on hw ho hx hat hu hd n hi hn h
theorem eqs_o {b : BinOp} {t rt : TypeId} {x y : Operand} (ho : op.op = .binOp b t x y rt) {xs ys : Array Value} (hx : a.eval x = .agg xs) (hy : a.eval y = .agg ys)
    (hg : P.eqGuardType P.depth t = false) {v : Value} (hr : ∀ w, (binOp b t (.agg xs) (.agg ys)).run P w = .ok v w) (hw : Region.wanted op (yielded ops a.tmps) = true) (k : wpList P ops Q rest (a.put op.dst v) w) : wpList P ops Q (op :: rest) a w := eqs_on hw ho hx hy hg hr k
end
/-- what cmp.Compare tells -/
def cmpI (a b : Int) : Int := if a < b then -1 else if b < a then 1 else 0
theorem compare_uint32 (a b : Int) (w : World) : Calls Try.prog 36 #[.int .u32 a, .int .u32 b] w fun e w' => e = .returned (.int .i64 (cmpI a b)) ∧ w = w' := by
  have hnan : ∀ (x : Int) (w : World), Calls Try.prog 45 #[.int .u32 x] w fun e w' => e = .returned (.bool false) ∧ w = w' := by
    intro x w
    go_enter Try.func45, Try.ntmps45
    go_wp2
    go_ret
    exact ⟨by simp, rfl⟩
  by_cases h1 : a < b
  · have hc : cmpI a b = -1 := by unfold cmpI; rw [if_pos h1]
    rw [hc]
    have hd : decide (a < b) = true := decide_eq_true h1
    clear hc h1
    go_enter Try.func36, Try.ntmps36
    go_wp2_with (first
      | (go_at_call 45; ((with_reducible refine (hnan _ _).mono ?_); rintro e w1 ⟨rfl, rfl⟩))
      | fail)
    go_ret
    exact ⟨rfl, rfl⟩
  · have hd : decide (a < b) = false := decide_eq_false h1
    by_cases h2 : b < a
    · have hc : cmpI a b = 1 := by unfold cmpI; rw [if_neg h1, if_pos h2]
      rw [hc]
      have hd2 : decide (b < a) = true := decide_eq_true h2
      clear hc h1 h2
      go_enter Try.func36, Try.ntmps36
      go_wp2_with (first
        | (go_at_call 45; ((with_reducible refine (hnan _ _).mono ?_); rintro e w1 ⟨rfl, rfl⟩))
        | fail)
      go_ret
      exact ⟨rfl, rfl⟩
    · have hc : cmpI a b = 0 := by unfold cmpI; rw [if_neg h1, if_neg h2]
      rw [hc]
      have hd2 : decide (b < a) = false := decide_eq_false h2
      clear hc h1 h2
      go_enter Try.func36, Try.ntmps36
      go_wp2_with (first
        | (go_at_call 45; ((with_reducible refine (hnan _ _).mono ?_); rintro e w1 ⟨rfl, rfl⟩))
        | fail)
      go_ret
      exact ⟨rfl, rfl⟩
theorem compare_int (a b : Int) (w : World) : Calls Try.prog 37 #[.int .i64 a, .int .i64 b] w fun e w' => e = .returned (.int .i64 (cmpI a b)) ∧ w = w' := by
  have hnan : ∀ (x : Int) (w : World), Calls Try.prog 46 #[.int .i64 x] w fun e w' => e = .returned (.bool false) ∧ w = w' := by
    intro x w
    go_enter Try.func46, Try.ntmps46
    go_wp2
    go_ret
    exact ⟨by simp, rfl⟩
  by_cases h1 : a < b
  · have hc : cmpI a b = -1 := by unfold cmpI; rw [if_pos h1]
    rw [hc]
    have hd : decide (a < b) = true := decide_eq_true h1
    clear hc h1
    go_enter Try.func37, Try.ntmps37
    go_wp2_with (first
      | (go_at_call 46; ((with_reducible refine (hnan _ _).mono ?_); rintro e w1 ⟨rfl, rfl⟩))
      | fail)
    go_ret
    exact ⟨rfl, rfl⟩
  · have hd : decide (a < b) = false := decide_eq_false h1
    by_cases h2 : b < a
    · have hc : cmpI a b = 1 := by unfold cmpI; rw [if_neg h1, if_pos h2]
      rw [hc]
      have hd2 : decide (b < a) = true := decide_eq_true h2
      clear hc h1 h2
      go_enter Try.func37, Try.ntmps37
      go_wp2_with (first
        | (go_at_call 46; ((with_reducible refine (hnan _ _).mono ?_); rintro e w1 ⟨rfl, rfl⟩))
        | fail)
      go_ret
      exact ⟨rfl, rfl⟩
    · have hc : cmpI a b = 0 := by unfold cmpI; rw [if_neg h1, if_neg h2]
      rw [hc]
      have hd2 : decide (b < a) = false := decide_eq_false h2
      clear hc h1 h2
      go_enter Try.func37, Try.ntmps37
      go_wp2_with (first
        | (go_at_call 46; ((with_reducible refine (hnan _ _).mono ?_); rintro e w1 ⟨rfl, rfl⟩))
        | fail)
      go_ret
      exact ⟨rfl, rfl⟩

def plKinds : List (Option IntKind) := [some .i64, some .i64] ++ pgKinds
theorem Pl.fit {x : Pl} (h : x.ok) : Fit plKinds x.cells := by
  have hb := h.b; have hk := h.k
  refine ⟨⟨rfl, ?_, ?_⟩, ⟨rfl, ?_, ?_⟩, Pg.fit h.p⟩
  all_goals simp [IntKind.min, IntKind.max, IntKind.signed, IntKind.bits]
  all_goals omega
theorem Pl.cells_eq {x y : Pl} (h : x.cells = y.cells) : x = y := by
  obtain ⟨b, k, p⟩ := x
  obtain ⟨b', k', p'⟩ := y
  simp only [Pl.cells, List.cons_append, List.nil_append, List.cons.injEq, Value.int.injEq, true_and] at h
  obtain ⟨h1, h2, h3⟩ := h
  have := Pg.cells_eq h3
  subst this
  have : b = b' := by omega
  have : k = k' := by omega
  subst_vars; rfl
theorem pl_eql (x y : Pl) (h : x.ok) (h' : y.ok) (w : World) : (binOp .eql 29 (.agg x.cells.toArray) (.agg y.cells.toArray)).run Try.prog w = .ok (.bool (decide (x = y))) w :=
  flat_binop_eql (m := 6) (D := 6) (by omega) (by kernel_rfl) (ks := plKinds) (by kernel_rfl) (by kernel_rfl) (Pl.fit h) (Pl.fit h') _ (by rw [decide_eq_true_eq]; exact ⟨fun e => by rw [e], Pl.cells_eq⟩) w

/-- does a page stand for another one? -/
def standsB (x y : Pl) : Bool := if x.p.s ≠ y.p.s ∨ x = y then false else decide (y.p.q < x.p.q) || (decide (x.p.q = y.p.q) && (decide (x.b ≠ y.b) || decide (x.k < y.k)))

set_option maxRecDepth 100000 in
theorem stands_any (x y : Pl) (hx : x.ok) (hy : y.ok) (w : World) : Calls Try.prog 26 #[.agg x.cells.toArray, .agg y.cells.toArray] w fun e w' => e = .returned (.bool (standsB x y)) ∧ Below w.heap.size w w' := by
  have Hi9 : Hid ((Try.prog.info? 29).map (·.size) = some 9) := by unfold Hid; kernel_rfl
  have Heq := Lib.hid (fun w => pl_eql x y hx hy w)
  by_cases hs : x.p.s = y.p.s
  · have b1 : (x.p.s != y.p.s) = false := by rw [bne_eq_false_iff_eq]; exact hs
    by_cases he : x = y
    · have hd : decide (x = y) = true := decide_eq_true he
      rw [hd] at Heq
      have hst : standsB x y = false := by unfold standsB; rw [if_pos (.inr he)]
      rw [hst]
      clear hst he hs hd
      go_enter Try.func26, Try.ntmps26
      go_wp2_with (first
        | (refine bx_o (ty := 29) rfl (v := .agg x.cells.toArray) rfl rfl ?_; intro w1 hn1
           have HA1 : Hid (At w1 w.heap.size x.cells 29) := Lib.hid hn1.to; have HB1 := Lib.hid (hn1.below (Nat.le_refl _)); clear hn1)
        | (refine bx_o (ty := 29) rfl (v := .agg y.cells.toArray) rfl rfl ?_; intro w2 hn2
           have HX2 := Lib.hid (hn2.at HA1.out)
           have HY2 : Hid (At w2 w1.heap.size y.cells 29) := Lib.hid hn2.to
           have c0 : w2.cell? ⟨w.heap.size, 0, none⟩ = some (.int .i64 x.b) := HX2.out.cell 0
           have d0 : w2.cell? ⟨w1.heap.size, 0, none⟩ = some (.int .i64 y.b) := HY2.out.cell 0
           have c1 : w2.cell? ⟨w.heap.size, 1, none⟩ = some (.int .i64 x.k) := HX2.out.cell 1
           have d1 : w2.cell? ⟨w1.heap.size, 1, none⟩ = some (.int .i64 y.k) := HY2.out.cell 1
           have c2 : w2.cell? ⟨w.heap.size, 2, none⟩ = some (.int .u32 x.p.s) := HX2.out.cell 2
           have d2 : w2.cell? ⟨w1.heap.size, 2, none⟩ = some (.int .u32 y.p.s) := HY2.out.cell 2
           have c3 : w2.cell? ⟨w.heap.size, 3, none⟩ = some (.int .u32 x.p.q) := HX2.out.cell 3
           have d3 : w2.cell? ⟨w1.heap.size, 3, none⟩ = some (.int .u32 y.p.q) := HY2.out.cell 3
           have HB2 := Lib.hid (HB1.out.trans (hn2.below HB1.out.size)); clear hn2)
        | (refine ld_o rfl rfl HX2.out Try.underlying29 rfl 9 Hi9.out (Nat.le_refl 9) rfl ?_; rw [pl_all (pl_len x)])
        | (refine ld_o rfl rfl HY2.out Try.underlying29 rfl 9 Hi9.out (Nat.le_refl 9) rfl ?_; rw [pl_all (pl_len y)])
        | (refine eqs_o rfl rfl rfl (by kernel_rfl) Heq.out rfl ?_)
        | (go_at_call 36; ((with_reducible refine (compare_uint32 _ _ _).mono ?_); rintro e w3 ⟨rfl, rfl⟩))
        | fail)
      go_ret
      exact ⟨rfl, HB2.out⟩
    · have hd : decide (x = y) = false := decide_eq_false he
      rw [hd] at Heq
      have hst : standsB x y = (decide (y.p.q < x.p.q) || (decide (x.p.q = y.p.q) && (decide (x.b ≠ y.b) || decide (x.k < y.k)))) := by unfold standsB; rw [if_neg (fun h => h.elim (fun h => h hs) he)]
      rw [hst]
      clear hst he hs hd
      obtain ⟨o, ho⟩ : ∃ o, cmpI x.p.q y.p.q = o := ⟨_, rfl⟩
      have Ho := Lib.hid (fun w => ho ▸ compare_uint32 x.p.q y.p.q w)
      by_cases h1 : y.p.q < x.p.q
      · have : o = 1 := by rw [← ho]; unfold cmpI; rw [if_neg (by omega), if_pos h1]
        subst this
        have hr : (decide (y.p.q < x.p.q) || (decide (x.p.q = y.p.q) && (decide (x.b ≠ y.b) || decide (x.k < y.k)))) = true := by simp [h1]
        rw [hr]
        clear hr h1 ho
        go_enter Try.func26, Try.ntmps26
        go_wp2_with (first
          | (refine bx_o (ty := 29) rfl (v := .agg x.cells.toArray) rfl rfl ?_; intro w1 hn1
             have HA1 : Hid (At w1 w.heap.size x.cells 29) := Lib.hid hn1.to; have HB1 := Lib.hid (hn1.below (Nat.le_refl _)); clear hn1)
          | (refine bx_o (ty := 29) rfl (v := .agg y.cells.toArray) rfl rfl ?_; intro w2 hn2
             have HX2 := Lib.hid (hn2.at HA1.out)
             have HY2 : Hid (At w2 w1.heap.size y.cells 29) := Lib.hid hn2.to
             have c0 : w2.cell? ⟨w.heap.size, 0, none⟩ = some (.int .i64 x.b) := HX2.out.cell 0
             have d0 : w2.cell? ⟨w1.heap.size, 0, none⟩ = some (.int .i64 y.b) := HY2.out.cell 0
             have c1 : w2.cell? ⟨w.heap.size, 1, none⟩ = some (.int .i64 x.k) := HX2.out.cell 1
             have d1 : w2.cell? ⟨w1.heap.size, 1, none⟩ = some (.int .i64 y.k) := HY2.out.cell 1
             have c2 : w2.cell? ⟨w.heap.size, 2, none⟩ = some (.int .u32 x.p.s) := HX2.out.cell 2
             have d2 : w2.cell? ⟨w1.heap.size, 2, none⟩ = some (.int .u32 y.p.s) := HY2.out.cell 2
             have c3 : w2.cell? ⟨w.heap.size, 3, none⟩ = some (.int .u32 x.p.q) := HX2.out.cell 3
             have d3 : w2.cell? ⟨w1.heap.size, 3, none⟩ = some (.int .u32 y.p.q) := HY2.out.cell 3
             have HB2 := Lib.hid (HB1.out.trans (hn2.below HB1.out.size)); clear hn2)
          | (refine ld_o rfl rfl HX2.out Try.underlying29 rfl 9 Hi9.out (Nat.le_refl 9) rfl ?_; rw [pl_all (pl_len x)])
          | (refine ld_o rfl rfl HY2.out Try.underlying29 rfl 9 Hi9.out (Nat.le_refl 9) rfl ?_; rw [pl_all (pl_len y)])
          | (refine eqs_o rfl rfl rfl (by kernel_rfl) Heq.out rfl ?_)
          | (go_at_call 36; ((with_reducible refine (Ho.out _).mono ?_); rintro e w3 ⟨rfl, rfl⟩; refine Hold.out ?_))
          | fail)
        refine ⟨?_⟩
        go_wp2_with fail
        go_ret
        exact ⟨rfl, HB2.out⟩
      · by_cases h2 : x.p.q = y.p.q
        · have : o = 0 := by rw [← ho]; unfold cmpI; rw [if_neg (by omega), if_neg (by omega)]
          subst this
          by_cases h3 : x.b = y.b
          · have b3 : ((x.b : Int) != (y.b : Int)) = false := by rw [bne_eq_false_iff_eq]; omega
            have hr : (decide (y.p.q < x.p.q) || (decide (x.p.q = y.p.q) && (decide (x.b ≠ y.b) || decide (x.k < y.k)))) = decide (x.k < y.k) := by simp [h2, h3]
            rw [hr]
            have b4 : decide (x.b = y.b) = true := decide_eq_true h3
            have b5 : (x.b != y.b) = false := by simp [h3]
            clear hr h1 h2 h3 ho
            go_enter Try.func26, Try.ntmps26
            go_wp2_with (first
              | (refine bx_o (ty := 29) rfl (v := .agg x.cells.toArray) rfl rfl ?_; intro w1 hn1
                 have HA1 : Hid (At w1 w.heap.size x.cells 29) := Lib.hid hn1.to; have HB1 := Lib.hid (hn1.below (Nat.le_refl _)); clear hn1)
              | (refine bx_o (ty := 29) rfl (v := .agg y.cells.toArray) rfl rfl ?_; intro w2 hn2
                 have HX2 := Lib.hid (hn2.at HA1.out)
                 have HY2 : Hid (At w2 w1.heap.size y.cells 29) := Lib.hid hn2.to
                 have c0 : w2.cell? ⟨w.heap.size, 0, none⟩ = some (.int .i64 x.b) := HX2.out.cell 0
                 have d0 : w2.cell? ⟨w1.heap.size, 0, none⟩ = some (.int .i64 y.b) := HY2.out.cell 0
                 have c1 : w2.cell? ⟨w.heap.size, 1, none⟩ = some (.int .i64 x.k) := HX2.out.cell 1
                 have d1 : w2.cell? ⟨w1.heap.size, 1, none⟩ = some (.int .i64 y.k) := HY2.out.cell 1
                 have c2 : w2.cell? ⟨w.heap.size, 2, none⟩ = some (.int .u32 x.p.s) := HX2.out.cell 2
                 have d2 : w2.cell? ⟨w1.heap.size, 2, none⟩ = some (.int .u32 y.p.s) := HY2.out.cell 2
                 have c3 : w2.cell? ⟨w.heap.size, 3, none⟩ = some (.int .u32 x.p.q) := HX2.out.cell 3
                 have d3 : w2.cell? ⟨w1.heap.size, 3, none⟩ = some (.int .u32 y.p.q) := HY2.out.cell 3
                 have HB2 := Lib.hid (HB1.out.trans (hn2.below HB1.out.size)); clear hn2)
              | (refine ld_o rfl rfl HX2.out Try.underlying29 rfl 9 Hi9.out (Nat.le_refl 9) rfl ?_; rw [pl_all (pl_len x)])
              | (refine ld_o rfl rfl HY2.out Try.underlying29 rfl 9 Hi9.out (Nat.le_refl 9) rfl ?_; rw [pl_all (pl_len y)])
              | (refine eqs_o rfl rfl rfl (by kernel_rfl) Heq.out rfl ?_)
              | (go_at_call 36; ((with_reducible refine (Ho.out _).mono ?_); rintro e w3 ⟨rfl, rfl⟩; refine Hold.out ?_))
              | fail)
            refine ⟨?_⟩
            go_wp2_with fail
            go_ret
            exact ⟨rfl, HB2.out⟩
          · have b3 : ((x.b : Int) != (y.b : Int)) = true := by rw [bne_iff_ne]; omega
            have hr : (decide (y.p.q < x.p.q) || (decide (x.p.q = y.p.q) && (decide (x.b ≠ y.b) || decide (x.k < y.k)))) = true := by simp [h2, h3]
            rw [hr]
            have b4 : decide (x.b = y.b) = false := decide_eq_false h3
            have b5 : (x.b != y.b) = true := by simp [h3]
            clear hr h1 h2 h3 ho
            go_enter Try.func26, Try.ntmps26
            go_wp2_with (first
              | (refine bx_o (ty := 29) rfl (v := .agg x.cells.toArray) rfl rfl ?_; intro w1 hn1
                 have HA1 : Hid (At w1 w.heap.size x.cells 29) := Lib.hid hn1.to; have HB1 := Lib.hid (hn1.below (Nat.le_refl _)); clear hn1)
              | (refine bx_o (ty := 29) rfl (v := .agg y.cells.toArray) rfl rfl ?_; intro w2 hn2
                 have HX2 := Lib.hid (hn2.at HA1.out)
                 have HY2 : Hid (At w2 w1.heap.size y.cells 29) := Lib.hid hn2.to
                 have c0 : w2.cell? ⟨w.heap.size, 0, none⟩ = some (.int .i64 x.b) := HX2.out.cell 0
                 have d0 : w2.cell? ⟨w1.heap.size, 0, none⟩ = some (.int .i64 y.b) := HY2.out.cell 0
                 have c1 : w2.cell? ⟨w.heap.size, 1, none⟩ = some (.int .i64 x.k) := HX2.out.cell 1
                 have d1 : w2.cell? ⟨w1.heap.size, 1, none⟩ = some (.int .i64 y.k) := HY2.out.cell 1
                 have c2 : w2.cell? ⟨w.heap.size, 2, none⟩ = some (.int .u32 x.p.s) := HX2.out.cell 2
                 have d2 : w2.cell? ⟨w1.heap.size, 2, none⟩ = some (.int .u32 y.p.s) := HY2.out.cell 2
                 have c3 : w2.cell? ⟨w.heap.size, 3, none⟩ = some (.int .u32 x.p.q) := HX2.out.cell 3
                 have d3 : w2.cell? ⟨w1.heap.size, 3, none⟩ = some (.int .u32 y.p.q) := HY2.out.cell 3
                 have HB2 := Lib.hid (HB1.out.trans (hn2.below HB1.out.size)); clear hn2)
              | (refine ld_o rfl rfl HX2.out Try.underlying29 rfl 9 Hi9.out (Nat.le_refl 9) rfl ?_; rw [pl_all (pl_len x)])
              | (refine ld_o rfl rfl HY2.out Try.underlying29 rfl 9 Hi9.out (Nat.le_refl 9) rfl ?_; rw [pl_all (pl_len y)])
              | (refine eqs_o rfl rfl rfl (by kernel_rfl) Heq.out rfl ?_)
              | (go_at_call 36; ((with_reducible refine (Ho.out _).mono ?_); rintro e w3 ⟨rfl, rfl⟩; refine Hold.out ?_))
              | fail)
            refine ⟨?_⟩
            go_wp2_with fail
            go_ret
            exact ⟨rfl, HB2.out⟩
        · have : o = -1 := by rw [← ho]; unfold cmpI; rw [if_pos (by omega)]
          have hr : (decide (y.p.q < x.p.q) || (decide (x.p.q = y.p.q) && (decide (x.b ≠ y.b) || decide (x.k < y.k)))) = false := by simp [h1, h2]
          rw [hr]
          have n1 : decide ((0 : Int) < o) = false := decide_eq_false (by omega)
          have n2 : (o == 0) = false := by rw [beq_eq_false_iff_ne]; omega
          clear hr h1 h2 ho this
          go_enter Try.func26, Try.ntmps26
          go_wp2_with (first
            | (refine bx_o (ty := 29) rfl (v := .agg x.cells.toArray) rfl rfl ?_; intro w1 hn1
               have HA1 : Hid (At w1 w.heap.size x.cells 29) := Lib.hid hn1.to; have HB1 := Lib.hid (hn1.below (Nat.le_refl _)); clear hn1)
            | (refine bx_o (ty := 29) rfl (v := .agg y.cells.toArray) rfl rfl ?_; intro w2 hn2
               have HX2 := Lib.hid (hn2.at HA1.out)
               have HY2 : Hid (At w2 w1.heap.size y.cells 29) := Lib.hid hn2.to
               have c0 : w2.cell? ⟨w.heap.size, 0, none⟩ = some (.int .i64 x.b) := HX2.out.cell 0
               have d0 : w2.cell? ⟨w1.heap.size, 0, none⟩ = some (.int .i64 y.b) := HY2.out.cell 0
               have c1 : w2.cell? ⟨w.heap.size, 1, none⟩ = some (.int .i64 x.k) := HX2.out.cell 1
               have d1 : w2.cell? ⟨w1.heap.size, 1, none⟩ = some (.int .i64 y.k) := HY2.out.cell 1
               have c2 : w2.cell? ⟨w.heap.size, 2, none⟩ = some (.int .u32 x.p.s) := HX2.out.cell 2
               have d2 : w2.cell? ⟨w1.heap.size, 2, none⟩ = some (.int .u32 y.p.s) := HY2.out.cell 2
               have c3 : w2.cell? ⟨w.heap.size, 3, none⟩ = some (.int .u32 x.p.q) := HX2.out.cell 3
               have d3 : w2.cell? ⟨w1.heap.size, 3, none⟩ = some (.int .u32 y.p.q) := HY2.out.cell 3
               have HB2 := Lib.hid (HB1.out.trans (hn2.below HB1.out.size)); clear hn2)
            | (refine ld_o rfl rfl HX2.out Try.underlying29 rfl 9 Hi9.out (Nat.le_refl 9) rfl ?_; rw [pl_all (pl_len x)])
            | (refine ld_o rfl rfl HY2.out Try.underlying29 rfl 9 Hi9.out (Nat.le_refl 9) rfl ?_; rw [pl_all (pl_len y)])
            | (refine eqs_o rfl rfl rfl (by kernel_rfl) Heq.out rfl ?_)
            | (go_at_call 36; ((with_reducible refine (Ho.out _).mono ?_); rintro e w3 ⟨rfl, rfl⟩; refine Hold.out ?_))
            | fail)
          refine ⟨?_⟩
          go_wp2_with fail
          go_ret
          exact ⟨rfl, HB2.out⟩
  · have b1 : (x.p.s != y.p.s) = true := by rw [bne_iff_ne]; exact hs
    have hst : standsB x y = false := by unfold standsB; rw [if_pos (.inl hs)]
    rw [hst]
    clear hst hs
    go_enter Try.func26, Try.ntmps26
    go_wp2_with (first
      | (refine bx_o (ty := 29) rfl (v := .agg x.cells.toArray) rfl rfl ?_; intro w1 hn1
         have HA1 : Hid (At w1 w.heap.size x.cells 29) := Lib.hid hn1.to; have HB1 := Lib.hid (hn1.below (Nat.le_refl _)); clear hn1)
      | (refine bx_o (ty := 29) rfl (v := .agg y.cells.toArray) rfl rfl ?_; intro w2 hn2
         have HX2 := Lib.hid (hn2.at HA1.out)
         have HY2 : Hid (At w2 w1.heap.size y.cells 29) := Lib.hid hn2.to
         have c0 : w2.cell? ⟨w.heap.size, 0, none⟩ = some (.int .i64 x.b) := HX2.out.cell 0
         have d0 : w2.cell? ⟨w1.heap.size, 0, none⟩ = some (.int .i64 y.b) := HY2.out.cell 0
         have c1 : w2.cell? ⟨w.heap.size, 1, none⟩ = some (.int .i64 x.k) := HX2.out.cell 1
         have d1 : w2.cell? ⟨w1.heap.size, 1, none⟩ = some (.int .i64 y.k) := HY2.out.cell 1
         have c2 : w2.cell? ⟨w.heap.size, 2, none⟩ = some (.int .u32 x.p.s) := HX2.out.cell 2
         have d2 : w2.cell? ⟨w1.heap.size, 2, none⟩ = some (.int .u32 y.p.s) := HY2.out.cell 2
         have c3 : w2.cell? ⟨w.heap.size, 3, none⟩ = some (.int .u32 x.p.q) := HX2.out.cell 3
         have d3 : w2.cell? ⟨w1.heap.size, 3, none⟩ = some (.int .u32 y.p.q) := HY2.out.cell 3
         have HB2 := Lib.hid (HB1.out.trans (hn2.below HB1.out.size)); clear hn2)
      | (refine ld_o rfl rfl HX2.out Try.underlying29 rfl 9 Hi9.out (Nat.le_refl 9) rfl ?_; rw [pl_all (pl_len x)])
      | (refine ld_o rfl rfl HY2.out Try.underlying29 rfl 9 Hi9.out (Nat.le_refl 9) rfl ?_; rw [pl_all (pl_len y)])
      | (refine eqs_o rfl rfl rfl (by kernel_rfl) Heq.out rfl ?_)
      | (go_at_call 36; ((with_reducible refine (compare_uint32 _ _ _).mono ?_); rintro e w3 ⟨rfl, rfl⟩))
      | fail)
    go_ret
    exact ⟨rfl, HB2.out⟩
end Go.Proofs.Ytihlbfbplmehiaa
