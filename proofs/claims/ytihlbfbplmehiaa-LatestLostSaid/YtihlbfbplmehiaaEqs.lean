/- '==' and '!=' of structs and arrays as one step of a walk. -/
import Derived.Test.YtihlbfbplmehiaaQuiets
import Derived.Test.YtihlbfbplmehiaaMemB
import Derived.Laws.StructEq
namespace Go.Proofs.Ytihlbfbplmehiaa
open Go.RowKit

theorem run_eqs {P : Program} {w : World} {o : Oper} {ρ : Operand → Value} {b : BinOp} {t rt : TypeId} {x y : Operand} (ho : o.op = .binOp b t x y rt) {xs ys : Array Value} (hx : ρ x = .agg xs) (hy : ρ y = .agg ys) (hg : P.eqGuardType P.depth t = false) {v : Value}
    (hr : (binOp b t (.agg xs) (.agg ys)).run P w = .ok v w) : (execOp ρ o).run P w = .ok (.value v) w := by
  have he : (eqGuard b t x y (.agg xs) (.agg ys)).run P w = .ok () w := run_eqGuard_agg w b t x y xs ys hg
  simp only [execOp, ho, hx, hy, Sem.run_bind, he, Result.andThen_ok, hr, Sem.run_pure]

theorem wpQuiet_eqs {P : Program} {ops : Array Oper} {C : World → Prop} {Q : Act → Prop} {o : Oper} {rest : List Oper} {a : Act} (hw : Region.wanted o (yielded ops a.tmps) = true) {b : BinOp} {t rt : TypeId} {x y : Operand} (ho : o.op = .binOp b t x y rt) {xs ys : Array Value} (hx : a.eval x = .agg xs) (hy : a.eval y = .agg ys)
    (hg : P.eqGuardType P.depth t = false) {v : Value} (hr : ∀ w, (binOp b t (.agg xs) (.agg ys)).run P w = .ok v w) (k : wpQuiet P ops C Q rest (a.put o.dst v)) : wpQuiet P ops C Q (o :: rest) a :=
  wpQuiet_of_run hw (fun w _ => run_eqs ho hx hy hg (hr w)) k
theorem eqs_on {P : Program} {ops : Array Oper} {rest : List Oper} {op : Oper} {a : Act} {w : World} {Q : Exit → Act → World → Prop} (hw : Region.wanted op (yielded ops a.tmps) = true) {b : BinOp} {t rt : TypeId} {x y : Operand} (ho : op.op = .binOp b t x y rt) {xs ys : Array Value} (hx : a.eval x = .agg xs) (hy : a.eval y = .agg ys)
    (hg : P.eqGuardType P.depth t = false) {v : Value} (hr : ∀ w, (binOp b t (.agg xs) (.agg ys)).run P w = .ok v w) (k : wpList P ops Q rest (a.put op.dst v) w) : wpList P ops Q (op :: rest) a w :=
  op_run hw (run_eqs ho hx hy hg (hr w)) k
end Go.Proofs.Ytihlbfbplmehiaa
