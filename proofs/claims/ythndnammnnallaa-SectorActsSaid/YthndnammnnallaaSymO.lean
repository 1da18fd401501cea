/- The evaluator over memory known by name: a law by cases. -/
import Derived.Test.YthndnammnnallaaSymN
namespace Go.Proofs.Ythndnammnnallaa.Sy
open Go.RowKit

/-- the law holds of arguments of which these tests hold -/
def Holds (P : Program) (f : FuncId) (l : List Sh) (pc : List (B × Bool)) : Prop :=
  ∀ xs : List Int, inAll xs (shB l) → (∀ b t, (b, t) ∈ pc → b.val (fun i => xs.getD i 0) = t) → ∀ w, Calls P f (shVals l xs).toArray w fun e w' => e = .returned (.bool true) ∧ Below w.heap.size w w'
theorem holds_run {P : Program} (hm : P.follows .mixedOrders = true) (k : Nat) {f : FuncId} {l : List Sh} {pc : List (B × Bool)} (h : (xcall P k ⟨shB l, pc, [], 0⟩ f (shArgs l 0) mem0).allB isTrue = true) : Holds P f l pc := by
  intro xs hx hpc w
  have hl : xs.length = (shKinds l).length := by have := inAll_len hx; simpa [shB] using this
  exact calls_true hm (fun i => xs.getD i 0) k f (shArgs l 0) (shVals l xs) (g := ⟨shB l, pc, [], 0⟩) ⟨(gok_of hx 0).vs, hpc⟩ rfl (den_shs [] l xs xs 0 hl (fun j _ => by rw [Nat.zero_add])) h w
theorem holds_split {P : Program} {f : FuncId} {l : List Sh} {pc : List (B × Bool)} (b : B) (h1 : Holds P f l ((b, true) :: pc)) (h2 : Holds P f l ((b, false) :: pc)) : Holds P f l pc := by
  intro xs hx hpc w
  cases hb : b.val (fun i => xs.getD i 0) with
  | true => exact h1 xs hx (fun b' t' hm => by rcases List.mem_cons.1 hm with e | hm; cases e; exact hb; exact hpc b' t' hm) w
  | false => exact h2 xs hx (fun b' t' hm => by rcases List.mem_cons.1 hm with e | hm; cases e; exact hb; exact hpc b' t' hm) w
theorem calls_holds {P : Program} {f : FuncId} {l : List Sh} (vs : List Value) (hv : FitsAll l vs) (h : Holds P f l []) (w : World) : Calls P f vs.toArray w fun e w' => e = .returned (.bool true) ∧ Below w.heap.size w w' := by
  obtain ⟨xs, rfl, hx⟩ := fits_all l vs hv
  exact h xs hx (fun b t hm => by cases hm) w
end Go.Proofs.Ythndnammnnallaa.Sy
