/- Regions that draw their order, whose operations read and whose callees make memory: walked once, in the class of the worlds that lie above one. -/
import Derived.Test.YtihlbfbplmehiaaBase
import Derived.Deep.MidRow
namespace Go.Proofs.Ytihlbfbplmehiaa
open Go.RowKit

/-- a world above w -/
structure Abv (w : World) where
  u : World
  b : Below w.heap.size w u
instance (w : World) : Nonempty (Abv w) := ⟨⟨w, Below.refl _ _⟩⟩
theorem Abv.size {w : World} (x : Abv w) : w.heap.size ≤ x.u.heap.size := x.b.size
theorem Abv.cell {w : World} (x : Abv w) {b o : Nat} {v : Option Value} (hb : b < w.heap.size) (h : w.cell? ⟨b, o, none⟩ = v) : x.u.cell? ⟨b, o, none⟩ = v := (x.b.cell (p := ⟨b, o, none⟩) hb).trans h

section
variable {P : Program} {ops : Array Oper} {C : World → Prop} {Q : Act → Prop} {o : Oper} {rest : List Oper} {a : Act}

theorem wpQuiet_of_run (hw : Region.wanted o (yielded ops a.tmps) = true) {v : Value} (h : ∀ w, C w → (execOp a.eval o).run P w = .ok (.value v) w) (k : wpQuiet P ops C Q rest (a.put o.dst v)) : wpQuiet P ops C Q (o :: rest) a := by
  unfold wpQuiet
  rw [if_pos hw]
  refine ⟨v, fun w hc => ?_, k⟩
  unfold Oper.quietAt
  rw [h w hc]
  exact ⟨rfl, rfl⟩

/-- a load -/
theorem wpQuiet_ld (hw : Region.wanted o (yielded ops a.tmps) = true) {ty : TypeId} {x : Operand} (ho : o.op = .load ty x) {p : Addr} (hx : a.eval x = .pointer (some p)) {v : Value} (hr : ∀ w, C w → (loadVar ty p).run P w = .ok v w)
    (k : wpQuiet P ops C Q rest (a.put o.dst v)) : wpQuiet P ops C Q (o :: rest) a :=
  wpQuiet_of_run hw (fun w hc => by
    unfold execOp
    simp only [ho, hx, Instr.loadAt, Instr.sureAddr, Sem.run_bind, Sem.run_pure, Result.andThen_ok, hr w hc]) k

/-- an operation that is left out -/
theorem wpQuiet_skip (hw : Region.wanted o (yielded ops a.tmps) = false) (k : wpQuiet P ops C Q rest (a.put o.dst undef)) : wpQuiet P ops C Q (o :: rest) a := by
  unfold wpQuiet
  rw [if_neg (by rw [hw]; decide)]
  exact k

/-- a call -/
theorem wpQuiet_call (hw : Region.wanted o (yielded ops a.tmps) = true) {f : FuncId} {args : Array Value} (hrun : ∀ w, C w → (execOp a.eval o).run P w = .ok (.enter f args) w) {v : Value}
    (hc : ∀ w, C w → Calls P f args w fun e w' => e = .returned v ∧ C w') (k : wpQuiet P ops C Q rest (a.put o.dst v)) : wpQuiet P ops C Q (o :: rest) a := by
  unfold wpQuiet
  rw [if_pos hw]
  refine ⟨v, fun w h => ?_, k⟩
  unfold Oper.quietAt
  rw [hrun w h]
  exact ⟨rfl, hc w h⟩

/-- the region, in whatever world above -/
theorem wp_region_abv {id : Nat} {R : Exit → Act → World → Prop} {w : World} {l : List Oper} (hm : P.follows .mixedOrders = true) (hB : Region.lexB .any l.toArray = true)
    (h : wpQuiet P l.toArray (fun w' => ∃ u : Abv w, w' = u.u) (fun a' => ∀ w', (∃ u : Abv w, w' = u.u) → R .normal a' w') l a) : (Code.region id l.toArray true).wp P R a w :=
  wp_region_quiet (C := fun w' => ∃ u : Abv w, w' = u.u) hm hB ⟨⟨_, (Below.refl _ w).drew⟩, rfl⟩ (by simpa using h)
end

/-- a callee's contract, met in a world above -/
theorem Calls.abv {P : Program} {f : FuncId} {args : Array Value} {w : World} (x : Abv w) {v : Value}
    (h : Calls P f args x.u fun e w' => e = .returned v ∧ Below x.u.heap.size x.u w') : Calls P f args x.u fun e w'' => e = .returned v ∧ ∃ y : Abv w, w'' = y.u :=
  h.mono fun _ w' ⟨he, hb⟩ => ⟨he, ⟨w', x.b.trans (hb.mono x.b.size)⟩, rfl⟩
theorem Calls.abv_same {P : Program} {f : FuncId} {args : Array Value} {w : World} (x : Abv w) {v : Value}
    (h : Calls P f args x.u fun e w' => e = .returned v ∧ x.u = w') : Calls P f args x.u fun e w'' => e = .returned v ∧ ∃ y : Abv w, w'' = y.u :=
  h.mono fun _ w' ⟨he, hb⟩ => ⟨he, x, hb.symm⟩
theorem Calls.abv_drew {P : Program} {f : FuncId} {args : Array Value} {w : World} (x : Abv w) {v : Value}
    (h : Calls P f args x.u fun e w' => e = .returned v ∧ ∃ n, w' = x.u.drewN n) : Calls P f args x.u fun e w'' => e = .returned v ∧ ∃ y : Abv w, w'' = y.u :=
  h.mono fun _ w' ⟨he, n, hb⟩ => ⟨he, ⟨w', hb ▸ below_drewN x.b n⟩, rfl⟩
end Go.Proofs.Ytihlbfbplmehiaa
