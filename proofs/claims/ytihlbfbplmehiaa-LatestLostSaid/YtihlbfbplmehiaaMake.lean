/- make of a slice of one-cell elements. -/
import Derived.Test.YtihlbfbplmehiaaMemB
import Derived.Laws.MakeOwn
import Derived.Laws.OwnMore
namespace Go.Proofs.Ytihlbfbplmehiaa
open Go.RowKit

theorem mk_one {P : Program} {ops : Array Oper} {rest : List Oper} {op : Oper} {a : Act} {w : World} {Q : Exit → Act → World → Prop} (hw : Region.wanted op (yielded ops a.tmps) = true) {t e : TypeId} {x y : Operand} (ho : op.op = .makeSlice t x y) {n : Nat} {k k' : IntKind} (hx : a.eval x = .int k n) (hy : a.eval y = .int k' n)
    (ht : P.underlying t = some (.slice e)) {z : Value} (hz : (P.info? e).bind (·.zero) = some z) (hi : (P.info? e).map (·.size) = some 1) (hb : ((P.info? e).map (·.bytes)).any (· ≤ 1000) = true) (hzc : z.cells = #[z]) (hn : n ≤ 1000000)
    (h : ∀ w2, New w w2 (.cells (List.replicate n z).toArray e) → wpList P ops Q rest (a.put op.dst (.slice (some ⟨w.heap.size, 0, none⟩) n n)) w2) : wpList P ops Q (op :: rest) a w := by
  cases hie : P.info? e with
  | none => rw [hie] at hi; cases hi
  | some ie =>
    simp only [hie, Option.map_some, Option.some.injEq, Option.bind_some, Option.any_some, decide_eq_true_eq] at hi hz hb
    have hm := run_make (P := P) w t e ie z ht hie hz k k' (n : Int) (n : Int) (by omega) (by omega) (by
      have : (ie.bytes : Int) * (n : Int) ≤ 1000 * 1000000 := Int.mul_le_mul (by omega) (by omega) (by omega) (by omega)
      omega) (by omega)
    rw [hzc, hi, Nat.mul_one, Int.toNat_natCast] at hm
    have hl : madeCells #[z] n = (List.replicate n z).toArray := by rw [← toList_madeCells_one]
    rw [hl] at hm
    exact op_run hw (by simp only [execOp, ho, hx, hy, Sem.run_bind, hm, Result.andThen_ok, Sem.run_pure]) (h _ (New.alloc w _))
end Go.Proofs.Ytihlbfbplmehiaa
