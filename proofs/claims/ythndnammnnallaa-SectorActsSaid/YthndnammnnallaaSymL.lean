/- The evaluator over memory known by name is sound. -/
import Derived.Test.YthndnammnnallaaSymS
namespace Go.Proofs.Ythndnammnnallaa.Sy
open Go.RowKit

section
variable {S : List Nat} {w0 w w' : World} {ρ : Nat → Int} {g : G} {σ : List (Nat × Nat)} {m m' : Mem} {P : Program} {n : Nat} {tm : TM} {a : Act} {o : Oper}

theorem getD_get {ts : Array Value} {d : Nat} {x : Value} (h : ts.getD d undef = x) (hd : d < ts.size) : ts[d]? = some x := by
  rw [Array.getD_eq_getD_getElem?] at h
  rw [Array.getElem?_eq_getElem hd] at h ⊢
  simpa using h
theorem slot_get (hT : RT ρ σ g.ng n tm a) {d : Nat} {v : V} (hd : Nat.blt d n = true) (h : tm.get d = some v) : ∃ x, den ρ σ v = some x ∧ a.tmps[d]? = some x := by
  have hlt : d < a.tmps.size := by rw [hT.size]; simpa using hd
  exact ⟨_, hT.get d v h, getD_get rfl hlt⟩
/-- a slot's test that is taken for what it is -/
theorem RT.refine (hT : RT ρ σ g.ng n tm a) {d : Nat} {b : B} {c : Bool} (h : tm.get d = some (.bool (.d b))) (e : b.val ρ = c) : RT ρ σ g.ng n (Sy.put n tm (some d) (.bool (.s c))) a := by
  unfold Sy.put
  cases hd : Nat.blt d n with
  | false => simpa [hd] using hT
  | true =>
    simp only [hd]
    refine ⟨hT.size, ?_, hT.defers, hT.glob⟩
    intro i v hv
    rcases TM.get_set _ _ _ _ _ hv with ⟨rfl, rfl⟩ | ⟨_, hv⟩
    · have := hT.get i _ h
      subst e
      exact this
    · exact hT.get i v hv

theorem wanted_yes (hT : RT ρ σ g.ng n tm a) {ops : List Oper} (h : wantedV n ops tm o = .yes) : Region.wanted o (yielded ops.toArray a.tmps) = true := by
  unfold wantedV at h
  unfold Region.wanted
  split at h
  · rename_i hg; rw [hg]
  · rename_i j want hg
    rw [hg]
    simp only
    split at h
    · cases h
    · rename_i p hp
      rw [nth_eq] at hp
      split at h
      · cases h
      · rename_i d hd
        split at h
        · cases h
        · rename_i hlt
          have key : ∀ c : Bool, tm.get d = some (.bool (.s c)) → c = want → (yielded ops.toArray a.tmps j == some want) = true := by
            intro c hc e
            obtain ⟨x, hx, hs⟩ := slot_get hT hlt hc
            cases (den_bool hx)
            subst e
            have hp' : ops.toArray[j]? = some p := by simpa using hp
            unfold yielded
            rw [hp']
            simp only [Option.bind_some, hd, hs, DB.val]
            simp
          split at h
          · rename_i hc; cases want with
            | true => exact key _ hc rfl
            | false => cases h
          · rename_i hc; cases want with
            | true => cases h
            | false => exact key _ hc rfl
          · cases h
          · cases h
          · cases h
theorem wanted_no (hT : RT ρ σ g.ng n tm a) {ops : List Oper} (h : wantedV n ops tm o = .no) : Region.wanted o (yielded ops.toArray a.tmps) = false := by
  unfold wantedV at h
  unfold Region.wanted
  split at h
  · cases h
  · rename_i j want hg
    rw [hg]
    simp only
    split at h
    · cases h
    · rename_i p hp
      rw [nth_eq] at hp
      have hp' : ops.toArray[j]? = some p := by simpa using hp
      split at h
      · cases h
      · rename_i d hd
        split at h
        · cases h
        · rename_i hlt
          have key : ∀ c : Bool, tm.get d = some (.bool (.s c)) → (!c) = want → (yielded ops.toArray a.tmps j == some want) = false := by
            intro c hc e
            obtain ⟨x, hx, hs⟩ := slot_get hT hlt hc
            cases (den_bool hx)
            subst e
            unfold yielded
            rw [hp']
            simp only [Option.bind_some, hd, hs, DB.val]
            cases c <;> rfl
          split at h
          · rename_i hc; cases want with
            | true => cases h
            | false => exact key _ hc rfl
          · rename_i hc; cases want with
            | true => exact key _ hc rfl
            | false => cases h
          · cases h
          · rename_i hc
            obtain ⟨x, hx, hs⟩ := slot_get hT hlt hc
            obtain ⟨ys, hy, rfl⟩ := den_tup hx
            unfold yielded
            rw [hp']
            simp only [Option.bind_some, hd, hs]
            rfl
          · cases h
theorem wanted_ask {ops : List Oper} {d : Nat} {b : B} (h : wantedV n ops tm o = .ask d b) : tm.get d = some (.bool (.d b)) := by
  unfold wantedV at h
  split at h
  · cases h
  · split at h
    · cases h
    · split at h
      · cases h
      · split at h
        · cases h
        · split at h
          · split at h <;> cases h
          · split at h <;> cases h
          · rename_i hc; cases h; exact hc
          · cases h
          · cases h

/-- one result -/
def resF (tmps : Array Value) : ResultVar → Sem Value
  | .tmp t => pure (tmps.getD t undef)
  | .cell b t => do loadVar t (← asAddr (tmps.getD b undef))
theorem results_eq (fn : Func) (tmps : Array Value) : results fn tmps = (do let vs ← fn.results.mapM (resF tmps); pure (if h : vs.size = 1 then vs[0] else .tuple vs)) := by
  unfold results
  have e : (fun x : ResultVar => match x with | .tmp t => pure (tmps.getD t undef) | .cell a t => do loadVar t (← asAddr (tmps.getD a undef)) : ResultVar → Sem Value) = resF tmps := by
    funext x; cases x <;> rfl
  rw [← e]
  rfl
theorem resV_run (hT : RT ρ σ g.ng n tm a) (hM : RM ρ S w0 σ m w) : ∀ {rs : List ResultVar} {l : List V}, resV P tm m rs = some l → ∃ xs, denL ρ σ l = some xs ∧ (rs.mapM (resF a.tmps)).run P w = .ok xs w
  | [], l, h => by simp only [resV, Option.some.injEq] at h; subst h; exact ⟨[], denL_nil, by simp⟩
  | .tmp t :: rs, l, h => by
    simp only [resV] at h
    split at h
    · rename_i v hv
      split at h
      · rename_i l' hl
        cases h
        obtain ⟨xs, h1, h2⟩ := resV_run hT hM hl
        refine ⟨_, denL_cons (hT.get t v hv) h1, ?_⟩
        rw [List.mapM_cons]
        have e : (resF a.tmps (.tmp t)).run P w = .ok (a.tmps.getD t undef) w := rfl
        simp only [Sem.run_bind, e, Sem.run_pure, Result.andThen_ok, h2]
      · cases h
    · cases h
  | .cell b t :: rs, l, h => by
    simp only [resV] at h
    split at h
    · rename_i b' q hv
      split at h
      · rename_i v hl0
        split at h
        · rename_i l' hl
          cases h
          obtain ⟨xs, h1, h2⟩ := resV_run hT hM hl
          obtain ⟨y, x, hy, hx, hr⟩ := load_run hM hl0
          obtain ⟨y', hy', e⟩ := den_ptr (hT.get b _ hv)
          rw [hy] at hy'; cases hy'
          refine ⟨_, denL_cons hx h1, ?_⟩
          rw [List.mapM_cons]
          have e : (resF a.tmps (.cell b t)).run P w = .ok x w := by
            unfold resF
            simp only [Sem.run_bind, e, asAddr, Sem.run_pure, Result.andThen_ok, hr]
          simp only [Sem.run_bind, e, Sem.run_pure, Result.andThen_ok, h2]
        · cases h
      · cases h
    · cases h
theorem resultV_run (hT : RT ρ σ g.ng n tm a) (hM : RM ρ S w0 σ m w) {fn : Func} {v : V} (h : resultV P fn tm m = some v) : ∃ x, den ρ σ v = some x ∧ (results fn a.tmps).run P w = .ok x w := by
  have key : ∀ xs, (fn.results.toList.mapM (resF a.tmps)).run P w = .ok xs w → (fn.results.mapM (resF a.tmps)).run P w = .ok xs.toArray w := by
    intro xs h
    rw [Array.mapM_eq_mapM_toList, Sem.run_map, h]
    rfl
  unfold resultV at h
  split at h
  · rename_i u hu; (try have hu := und_eq hu)
    cases h
    obtain ⟨xs, h1, h2⟩ := resV_run hT hM hu
    obtain ⟨x, z, h3, h4, rfl⟩ := denL_cons_eq h1
    rw [denL_nil] at h4; cases h4
    refine ⟨x, h3, ?_⟩
    rw [results_eq]
    simp only [Sem.run_bind, key _ h2, Result.andThen_ok, Sem.run_pure]
    rfl
  · rename_i l hne hl
    cases h
    obtain ⟨xs, h1, h2⟩ := resV_run hT hM hl
    refine ⟨.tuple xs.toArray, by simp only [den, h1], ?_⟩
    rw [results_eq]
    simp only [Sem.run_bind, key _ h2, Result.andThen_ok, Sem.run_pure]
    have hn : ¬ xs.toArray.size = 1 := by
      intro hh
      have hl1 := denL_length h1
      simp only [List.size_toArray] at hh
      rw [hh] at hl1
      match l, hl1, hne with
      | [u], _, hne => exact hne u rfl
    rw [dif_neg hn]
  · cases h
end
end Go.Proofs.Ythndnammnnallaa.Sy
