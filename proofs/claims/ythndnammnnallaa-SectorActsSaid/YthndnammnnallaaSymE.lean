/- The evaluator over memory known by name: operations that leave memory alone are what they are. -/
import Derived.Test.YthndnammnnallaaSymD
import Derived.Laws.Strings
namespace Go.Proofs.Ythndnammnnallaa.Sy
open Go.RowKit

theorem eqNL_eq : ∀ (a b : List Nat), eqNL a b = decide (a = b)
  | [], [] => by simp [eqNL]
  | [], _ :: _ => by simp [eqNL]
  | _ :: _, [] => by simp [eqNL]
  | a :: l, b :: k => by
    simp only [eqNL, eqNL_eq l k]
    by_cases h : a = b
    · subst h; simp
    · have : Nat.beq a b = false := by rw [Bool.eq_false_iff]; intro hh; exact h (Nat.eq_of_beq_eq_true hh)
      simp [this, h]
theorem map_nat_inj : ∀ {a b : List UInt8}, a.map UInt8.toNat = b.map UInt8.toNat → a = b
  | [], [], _ => rfl
  | [], _ :: _, h => by simp at h
  | _ :: _, [], h => by simp at h
  | x :: a, y :: b, h => by
    simp only [List.map_cons, List.cons.injEq] at h
    rw [UInt8.toNat_inj.1 h.1, map_nat_inj h.2]
theorem byteL_inj {a b : ByteArray} (h : byteL a = byteL b) : a = b := by
  obtain ⟨⟨a⟩⟩ := a
  obtain ⟨⟨b⟩⟩ := b
  simp only [byteL] at h
  congr 2
  exact map_nat_inj h
theorem baEq_eq (a b : ByteArray) : baEq a b = decide (a = b) := by
  unfold baEq
  rw [eqNL_eq, Bool.eq_iff_iff, decide_eq_true_iff, decide_eq_true_iff]
  exact ⟨byteL_inj, fun h => by rw [h]⟩

section
variable {P : Program} {ρ : Nat → Int} {g : G} {σ : List (Nat × Nat)}

theorem eqGuard_run (w : World) {op : BinOp} {t : TypeId} {xo yo : Operand} {a b : Value} (h1 : ∀ cs ds, a = .agg cs → b = .agg ds → P.eqGuardType P.depth t = false) (h2 : a = .nilIface → b = .nilIface → (isConstO xo || isConstO yo) = true) :
    (eqGuard op t xo yo a b).run P w = .ok () w := by
  unfold eqGuard
  have e : ∀ (c : Bool) (s : Sem Unit), (if c = true then (pure () : Sem Unit) else s).run P w = .ok () w ↔ (c = true ∨ s.run P w = .ok () w) := by
    intro c s
    cases c <;> simp
  cases op
  case eql | neq =>
    simp only [Bool.not_true, Bool.false_eq_true, if_false]
    cases a <;> cases b <;> first | rfl | skip
    case nilIface.nilIface =>
      have := h2 rfl rfl
      cases xo <;> cases yo <;> simp [isConstO] at this <;> rfl
    case agg.agg =>
      have := h1 _ _ rfl rfl
      simp [program, Sem.run, this]
  all_goals rfl

theorem int_neq_agg {j k : IntKind} {x y : Int} {t : TypeId} : ∀ cs ds, (Value.int j x) = .agg cs → (Value.int k y) = .agg ds → P.eqGuardType P.depth t = false := fun _ _ h => by cases h

def Runs2 (P : Program) (op : BinOp) (t : TypeId) (xo yo : Operand) (a b z : Value) : Prop := ∀ w, (do eqGuard op t xo yo a b; binOp op t a b : Sem Value).run P w = .ok z w
theorem runs2_int {op : BinOp} {t : TypeId} {xo yo : Operand} {j k : IntKind} {x y : Int} {z : Value} (h : ∀ w, (binOp op t (.int j x) (.int k y)).run P w = .ok z w) : Runs2 P op t xo yo (.int j x) (.int k y) z := by
  intro w
  rw [Sem.run_bind, eqGuard_run w int_neq_agg (fun h => by cases h), Result.andThen_ok]
  exact h w

theorem runs2_str {op : BinOp} {t : TypeId} {xo yo : Operand} {x y : ByteArray} : (op = .eql → Runs2 P op t xo yo (.string x) (.string y) (.bool (baEq x y))) ∧ (op = .neq → Runs2 P op t xo yo (.string x) (.string y) (.bool (!baEq x y))) := by
  have e : (x.toList == y.toList) = baEq x y := by
    rw [baEq_eq, ByteArray.toList_eq, ByteArray.toList_eq, Bool.eq_iff_iff, beq_iff_eq, decide_eq_true_iff]
    exact ⟨fun h => byteL_inj (by unfold byteL; rw [h]), fun h => by rw [h]⟩
  constructor
  all_goals
    rintro rfl w
    rw [Sem.run_bind, eqGuard_run w (fun _ _ h => by cases h) (fun h => by cases h), Result.andThen_ok]
    simp only [binOp, Op.stringOp, e]
    rfl

theorem oint_some {k : IntKind} {n : Option DN} {v : V} (h : oint k n = some v) : ∃ r, n = some r ∧ v = .int k r := by
  cases n with
  | none => cases h
  | some r =>
    simp only [oint, forceDN_eq] at h
    cases h; exact ⟨r, rfl, rfl⟩
theorem obool_some {b : DB} {v : V} (h : obool b = some v) : v = .bool b := by
  simp only [obool, forceDB_eq] at h
  cases h; rfl
theorem os_some {n : Option Int} {r : DN} (h : os n = some r) : n = some (r.val ρ) := by
  cases n with
  | none => cases h
  | some x => cases h; rfl
theorem same_bin (hg : Gok ρ g) {ty : TypeId} {op : BinOp} {x y : V} {a b : Value} {xo yo : Operand} {r : DB} (hr : same P g ty (isConstO xo || isConstO yo) x y = some r) (ha : den ρ σ x = some a) (hb : den ρ σ y = some b) :
    (op = .eql → Runs2 P op ty xo yo a b (.bool (r.val ρ))) ∧ (op = .neq → Runs2 P op ty xo yo a b (.bool (!r.val ρ))) := by
  constructor
  all_goals
    rintro rfl
    intro w
    obtain ⟨h1, h2, h3, h4, h5, h6, h7⟩ := same_run hg hr ha hb w
    rw [Sem.run_bind, eqGuard_run w h4 h5, Result.andThen_ok]
    unfold eqRun at h1
    unfold binOp
    split <;> first | (rename_i hh _ _; cases hh; done) | skip
    all_goals first
      | exact absurd ⟨rfl, rfl⟩ (h2 _ _ _ _)
      | exact absurd ⟨rfl, rfl⟩ (h3 _ _)
      | exact absurd ⟨rfl, rfl⟩ (h6 _ _ _ _)
      | exact absurd ⟨rfl, rfl⟩ (h7 _ _ _ _ _ _)
      | (simp only [Sem.run_bind, h1, Result.andThen_ok, Sem.run_pure]; done)
      | simp_all
theorem bin_run (hg : Gok ρ g) {ty : TypeId} {op : BinOp} {x y v : V} {a b : Value} {xo yo : Operand} (h : bin P g ty (isConstO xo || isConstO yo) op x y = some v) (ha : den ρ σ x = some a) (hb : den ρ σ y = some b) :
    ∃ z, den ρ σ v = some z ∧ Runs2 P op ty xo yo a b z := by
  unfold bin at h
  split at h
  · -- shifts
    split at h
    · cases (den_int ha)
      cases (den_int hb)
      split at h
      · cases h
      · rename_i hn
        have hl := nonneg_ok hg hn
        split at h
        · obtain ⟨r, hr, rfl⟩ := oint_some h
          exact ⟨_, rfl, runs2_int fun w => run_shift (os_some hr) hl _⟩
        · obtain ⟨r, hr, rfl⟩ := oint_some h
          have := shiftE_val hg hr
          rw [DN.e_val, DN.e_val] at this
          exact ⟨_, rfl, runs2_int fun w => run_shift this hl _⟩
    · cases h
  · split at h
    · rename_i hc
      split at h
      · cases (den_int ha)
        cases (den_int hb)
        split at h
        · rename_i hk
          have hk := kindNo_inj hk
          subst hk
          cases obool_some h
          refine ⟨.bool _, rfl, runs2_int fun w => ?_⟩
          rw [cmpN_val hg hc]
          exact run_cmp hc _ _ _ _
        · cases h
      · simp only [den, Option.some.injEq] at ha hb
        subst ha; subst hb
        split at h
        · cases h
          exact ⟨.bool _, rfl, runs2_str.1 rfl⟩
        · cases h
          exact ⟨.bool _, rfl, runs2_str.2 rfl⟩
        · cases h
      · split at h
        · split at h
          · rename_i r hr
            cases obool_some h
            exact ⟨.bool (r.val ρ), rfl, (same_bin hg hr ha hb).1 rfl⟩
          · cases h
        · split at h
          · rename_i r hr
            cases obool_some h
            exact ⟨.bool (r.not.val ρ), rfl, by rw [DB.not_val]; exact (same_bin hg hr ha hb).2 rfl⟩
          · cases h
        · cases h
    · split at h
      · cases (den_int ha)
        cases (den_int hb)
        split at h
        · cases h
        · rename_i hk
          have hk := kindNo_inj hk
          subst hk
          split at h
          · rename_i hc
            split at h
            · obtain ⟨r, hr, rfl⟩ := oint_some h
              exact ⟨_, rfl, runs2_int fun w => run_arith hc (os_some hr) _⟩
            · obtain ⟨r, hr, rfl⟩ := oint_some h
              have := arithE_val hg hr
              rw [DN.e_val, DN.e_val] at this
              exact ⟨_, rfl, runs2_int fun w => run_arith hc this _⟩
          · split at h
            · split at h
              · cases h
              · rename_i hl
                rw [eqI_eq, decide_eq_false_iff_not] at hl
                split at h
                · obtain ⟨r, hr, rfl⟩ := oint_some h
                  exact ⟨_, rfl, runs2_int fun w => run_div (os_some hr) hl _⟩
                · obtain ⟨r, hr, rfl⟩ := oint_some h
                  exact ⟨_, rfl, runs2_int fun w => run_div (divE_val hg hr) hl _⟩
            · cases h
      · cases h
end
end Go.Proofs.Ythndnammnnallaa.Sy
