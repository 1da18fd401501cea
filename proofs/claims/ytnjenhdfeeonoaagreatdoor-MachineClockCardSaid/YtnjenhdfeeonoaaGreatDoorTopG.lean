/- The evaluator over memory known by name: a law of integers whose loops are told. -/
import Derived.Test.YtnjenhdfeeonoaaGreatDoorTopB
import Derived.Test.YtnjenhdfeeonoaaGreatDoorEnum
namespace Go.Proofs.YtnjenhdfeeonoaaGreatDoor.Sy
open Go.RowKit

theorem holdsG_top {P : Program} (hm : P.follows .mixedOrders = true) (H : Hook) (hH : ∀ ρ, HookOk P H ρ) (k d ng : Nat) (gl : List (Nat × IntKind × List Int)) {f : FuncId} {l : List Sh} (specs : FuncId → Option (Nat → Option LS))
    (h : topCall P H k d specs ⟨shB l, [], [], ng⟩ f (shArgs l 0) (memG ng gl) = true) : HoldsG P ng gl f l [] := by
  intro xs hx hpc w hW
  have hl : xs.length = (shKinds l).length := by have := inAll_len hx; simpa [shB] using this
  have hg : Gok (fun i => xs.getD i 0) ⟨shB l, [], [], ng⟩ := ⟨(gok_of hx 0).vs, fun b t hm => by cases hm⟩
  exact topCall_ok hm hH h hg (fun i hi => ⟨0, sigG_get hi⟩) (RM.globs _ hW) (den_shs (sigG ng) l xs xs 0 hl (fun j _ => by rw [Nat.zero_add]))
end Go.Proofs.YtnjenhdfeeonoaaGreatDoor.Sy
