/- The evaluator over memory known by name: operations that leave memory alone are what they are. -/
import Derived.Test.YtkjfhkhcoenanaaSymD
namespace Go.Proofs.Ytkjfhkhcoenanaa.Sy
open Go.RowKit

section
variable {P : Program} {σ : List (Nat × Nat)}

theorem eqGuard_run (w : World) {op : BinOp} {t : TypeId} {xo yo : Operand} {a b : Value} (h1 : ∀ cs ds, a = .agg cs → b = .agg ds → P.eqGuardType P.depth t = false) (h2 : a = .nilIface → b = .nilIface → (isConstO xo || isConstO yo) = true) :
    (eqGuard op t xo yo a b).run P w = .ok () w := by
  unfold eqGuard
  have e : ∀ (c : Bool) (s : Sem Unit), (if c = true then (pure () : Sem Unit) else s).run P w = .ok () w ↔ (c = true ∨ s.run P w = .ok () w) := by
    intro c s
    cases c <;> simp
  cases op
  case eql | neq =>
    simp only [Bool.not_true, Bool.false_eq_true, if_false]
    cases a <;> cases b <;> first | rfl | skip
    case nilIface.nilIface =>
      have := h2 rfl rfl
      cases xo <;> cases yo <;> simp [isConstO] at this <;> rfl
    case agg.agg =>
      have := h1 _ _ rfl rfl
      simp [program, Sem.run, this]
  all_goals rfl

theorem int_neq_agg {j k : IntKind} {x y : Int} {t : TypeId} : ∀ cs ds, (Value.int j x) = .agg cs → (Value.int k y) = .agg ds → P.eqGuardType P.depth t = false := fun _ _ h => by cases h

def Runs2 (P : Program) (op : BinOp) (t : TypeId) (xo yo : Operand) (a b z : Value) : Prop := ∀ w, (do eqGuard op t xo yo a b; binOp op t a b : Sem Value).run P w = .ok z w
theorem runs2_int {op : BinOp} {t : TypeId} {xo yo : Operand} {j k : IntKind} {x y : Int} {z : Value} (h : ∀ w, (binOp op t (.int j x) (.int k y)).run P w = .ok z w) : Runs2 P op t xo yo (.int j x) (.int k y) z := by
  intro w
  rw [Sem.run_bind, eqGuard_run w int_neq_agg (fun h => by cases h), Result.andThen_ok]
  exact h w

theorem bin_run {ty : TypeId} {op : BinOp} {x y : V} {a b : Value} {K : V → Prop} {xo yo : Operand} (h : (bin P ty (isConstO xo || isConstO yo) op x y).all K) (ha : den σ x = some a) (hb : den σ y = some b) :
    ∃ v, K v ∧ ∃ z, den σ v = some z ∧ Runs2 P op ty xo yo a b z := by
  unfold bin at h
  split at h
  · -- shifts
    split at h
    · cases (den_int ha)
      cases (den_int hb)
      split at h
      · split at h
        · cases h
        · rename_i hl
          split at h
          · rename_i r hr
            refine ⟨_, h, _, rfl, runs2_int fun w => ?_⟩
            rw [ltI_eq, decide_eq_false_iff_not] at hl
            rw [mkN_val]
            exact run_shift hr hl _
          · cases h
      · rename_i b'
        by_cases hl : b' < 0
        · exact (h.1 (decide_eq_true hl)).elim
        · have h2 := h.2 (decide_eq_false hl)
          split at h2
          · rename_i r hr
            exact ⟨_, h2, _, rfl, runs2_int fun w => run_shift hr hl _⟩
          · cases h2
    · cases h
  · split at h
    · rename_i hc
      split at h
      · cases (den_int ha)
        cases (den_int hb)
        split at h
        · rename_i hk
          have hk := of_decide_eq_true hk
          subst hk
          split at h
          · refine ⟨_, h, _, rfl, runs2_int fun w => ?_⟩
            have := run_cmp (P := P) (w := w) hc
            simp only [DB.val, cmpS_eq]
            exact this _ _ _ _
          · refine ⟨_, h, _, rfl, runs2_int fun w => ?_⟩
            exact run_cmp hc _ _ _ _
        · cases h
      · split at h
        · split at h
          · rename_i r hr
            refine ⟨_, h, .bool r.val, rfl, fun w => ?_⟩
            obtain ⟨h1, h2, h3, h4, h5, h6, h7⟩ := same_run hr ha hb w
            rw [Sem.run_bind, eqGuard_run w h4 h5, Result.andThen_ok]
            unfold eqRun at h1
            unfold binOp
            split <;> first | (rename_i hh _ _; cases hh; done) | skip
            all_goals first
              | exact absurd ⟨rfl, rfl⟩ (h2 _ _ _ _)
              | exact absurd ⟨rfl, rfl⟩ (h3 _ _)
              | exact absurd ⟨rfl, rfl⟩ (h6 _ _ _ _)
              | exact absurd ⟨rfl, rfl⟩ (h7 _ _ _ _ _ _)
              | (simp only [Sem.run_bind, h1, Result.andThen_ok, Sem.run_pure]; done)
              | simp_all
          · cases h
        · split at h
          · rename_i r hr
            refine ⟨_, h, .bool r.not.val, rfl, fun w => ?_⟩
            obtain ⟨h1, h2, h3, h4, h5, h6, h7⟩ := same_run hr ha hb w
            rw [Sem.run_bind, eqGuard_run w h4 h5, Result.andThen_ok]
            unfold eqRun at h1
            unfold binOp
            split <;> first | (rename_i hh _ _; cases hh; done) | skip
            all_goals first
              | exact absurd ⟨rfl, rfl⟩ (h2 _ _ _ _)
              | exact absurd ⟨rfl, rfl⟩ (h3 _ _)
              | exact absurd ⟨rfl, rfl⟩ (h6 _ _ _ _)
              | exact absurd ⟨rfl, rfl⟩ (h7 _ _ _ _ _ _)
              | (simp only [Sem.run_bind, h1, Result.andThen_ok, Sem.run_pure, DB.not_val]; done)
              | simp_all
          · cases h
        · cases h
    · split at h
      · cases (den_int ha)
        cases (den_int hb)
        split at h
        · cases h
        · rename_i hk
          have hk := of_decide_eq_true hk
          subst hk
          split at h
          · rename_i hc
            split at h
            · rename_i r hr
              refine ⟨_, h, _, rfl, runs2_int fun w => ?_⟩
              rw [mkN_val]
              exact run_arith hc hr _
            · cases h
          · split at h
            · split at h
              · cases h
              · rename_i hl
                split at h
                · rename_i r hr
                  refine ⟨_, h, _, rfl, runs2_int fun w => ?_⟩
                  rw [eqI_eq, decide_eq_false_iff_not] at hl
                  rw [mkN_val]
                  exact run_div hr hl _
                · cases h
            · rename_i b'
              by_cases hl : b' = 0
              · exact (h.1 (decide_eq_true hl)).elim
              · have h2 := h.2 (decide_eq_false hl)
                split at h2
                · rename_i r hr
                  exact ⟨_, h2, _, rfl, runs2_int fun w => run_div hr hl _⟩
                · cases h2
      · cases h
end
end Go.Proofs.Ytkjfhkhcoenanaa.Sy
