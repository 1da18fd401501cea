/- The evaluator over memory known by name: two rows of numbers that are one: what the document says of them. -/
import Derived.Test.YtoiadmdnfcgckaaGreatDoorQuiet
namespace Go.Proofs.YtoiadmdnfcgckaaGreatDoor.Sy
open Go.RowKit

noncomputable def orH (H1 H2 : Hook) : Hook := fun g f args m => match H1 g f args m with
  | some t => some t
  | none => H2 g f args m
theorem orH_ok {P : Program} {H1 H2 : Hook} {ρ : Nat → Int} (h1 : HookOk P H1 ρ) (h2 : HookOk P H2 ρ) : HookOk P (orH H1 H2) ρ := by
  intro g f args m t xs S w0 σ w R h
  unfold orH at h
  split at h
  · rename_i t' ht
    cases h
    exact h1 g f args m t xs S w0 σ w R ht
  · exact h2 g f args m t xs S w0 σ w R h
def oneCol : List (IntKind × Nat) → Bool
  | [(k, a)] => Nat.beq (kindNo k) 6 && Nat.beq a 0
  | _ => false
noncomputable def inLen (g : G) (l : E) : Bool := match rng g l with
  | some (lo, hi) => leI 0 lo && leI hi 100000
  | none => false
noncomputable def sameRows (g : G) (o1 l1 o2 l2 p1 n1 p2 n2 : E) (c1 c2 : List (IntKind × Nat)) : Bool := o1.beq p1 && o2.beq p2 && l1.beq n1 && l2.beq n2 && l1.beq l2 && oneCol c1 && oneCol c2 && inLen g l1
/-- a function that says whether two rows of words hold the same -/
noncomputable def eqRows (f : Nat) : Hook := fun g f' args m => match Nat.beq f f' with
  | false => none
  | true => match args with
    | [.sl b1 o1 l1, .sl b2 o2 l2] => match m.blks.get b1, m.blks.get b2 with
      | some (.arr p1 n1 c1), some (.arr p2 n2 c2) => match sameRows g o1 l1 o2 l2 p1 n1 p2 n2 c1 c2 with
        | true => some (.ret (.ret (.bool (.s true)), m))
        | false => none
      | _, _ => none
    | _ => none
noncomputable def rowsM : Mem := ⟨((PT.full none 14).set 1 (.arr (.v 1062) (.v 0) [(.u32, 0)])).set 0 (.arr (.v 1063) (.v 0) [(.u32, 0)]), 2, 2⟩
def rowsArgs : List V := [.sl 0 (.v 1063) (.v 0), .sl 1 (.v 1062) (.v 0)]
def rowsG : G := ⟨[(0, 100000)], [], [], 0⟩
/-- .. its loop's number is in slot so -/
def rowsSpec (b s : Nat) : Nat → Option LS := fun i => match Nat.beq i b with
  | true => some { vars := [(.slot s, 0, 100000)], slots := [], cells := [], gone := [], facts := [], falls := (.v 1, .v 0) }
  | false => none
theorem oneCol_eq {c : List (IntKind × Nat)} (h : oneCol c = true) : c = [(.u32, 0)] := by
  unfold oneCol at h
  split at h
  · rename_i k a
    simp only [Bool.and_eq_true] at h
    have h1 : k = .u32 := kindNo_inj (k := .u32) h.1
    have h2 := Nat.eq_of_beq_eq_true h.2
    rw [h1, h2]
  · cases h
theorem eqRows_ok {P : Program} (hm : P.follows .mixedOrders = true) {f k d : Nat} {specs : FuncId → Option (Nat → Option LS)} (hrun : topCall P noH k d specs rowsG f rowsArgs rowsM = true) (ρ : Nat → Int) : HookOk P (eqRows f) ρ := by
  intro g f' args m t xs S w0 σ w R h hg hgl hM ha hall
  unfold eqRows at h
  split at h
  · cases h
  rename_i hf
  have hf := Nat.eq_of_beq_eq_true hf
  subst hf
  split at h
  · rename_i b1 o1 l1 b2 o2 l2
    split at h
    · rename_i p1 n1 c1 p2 n2 c2 e1 e2
      split at h
      · rename_i hc
        cases h
        simp only [sameRows, Bool.and_eq_true] at hc
        obtain ⟨⟨⟨⟨⟨⟨⟨h1, h2⟩, h3⟩, h4⟩, h5⟩, h6⟩, h7⟩, h8⟩ := hc
        have h1 := E.beq_eq _ _ h1
        have h2 := E.beq_eq _ _ h2
        have h3 := E.beq_eq _ _ h3
        have h4 := E.beq_eq _ _ h4
        have h5 := E.beq_eq _ _ h5
        have h6 := oneCol_eq h6
        have h7 := oneCol_eq h7
        subst h1; subst h2; subst h3; subst h4; subst h5; subst h6; subst h7
        obtain ⟨x1, z1, q1, hr1, rfl⟩ := denL_cons_eq ha
        obtain ⟨x2, z2, q2, hr2, rfl⟩ := denL_cons_eq hr1
        rw [denL_nil] at hr2
        cases hr2
        obtain ⟨y1, s1, rfl⟩ := den_sl q1
        obtain ⟨y2, s2, rfl⟩ := den_sl q2
        obtain ⟨b1', c1', t1, k1⟩ := hM.blk _ _ e1
        obtain ⟨b2', c2', t2, k2⟩ := hM.blk _ _ e2
        rw [s1] at t1; cases t1
        rw [s2] at t2; cases t2
        have hl : 0 ≤ l1.val ρ ∧ l1.val ρ ≤ 100000 := by
          unfold inLen at h8
          split at h8
          · rename_i lo hi hr
            have := rng_in hg _ _ hr
            simp only [Bool.and_eq_true, leI_eq, decide_eq_true_eq] at h8
            exact ⟨Int.le_trans h8.1 this.1, Int.le_trans this.2 h8.2⟩
          · cases h8
        let ρ' : Nat → Int := fun i => if i = 0 then l1.val ρ else if i = 1063 then ((o1.val ρ).toNat : Int) else if i = 1062 then ((o2.val ρ).toNat : Int) else ρ i
        have r0 : ρ' 0 = l1.val ρ := by simp [ρ']
        have r1 : ρ' 1063 = ((o1.val ρ).toNat : Int) := by simp [ρ']
        have r2 : ρ' 1062 = ((o2.val ρ).toNat : Int) := by simp [ρ']
        have r3 : ∀ i, ρ' (arrIdx 0 i) = ρ (arrIdx 0 i) := by
          intro i
          have a1 : arrIdx 0 i ≠ 0 := by unfold arrIdx; omega
          have a2 : arrIdx 0 i ≠ 1063 := by unfold arrIdx; omega
          have a3 : arrIdx 0 i ≠ 1062 := by unfold arrIdx; omega
          simp only [ρ', if_neg a1, if_neg a2, if_neg a3]
        have hg' : Gok ρ' rowsG := by
          refine ⟨fun i lo hi hi' => ?_, fun b t hm => by cases hm⟩
          match i, hi' with
          | 0, hi' => cases hi'; rw [r0]; exact hl
          | i + 1, hi' => cases hi'
        have one : ∀ {v : Nat} {o : E} {y : Nat × Nat}, ρ' v = ((o.val ρ).toNat : Int) → holds ρ σ w y.1 y.2 (.arr o l1 [(.u32, 0)]) → holds ρ' [] w y.1 y.2 (.arr (.v v) (.v 0) [(.u32, 0)]) := by
          intro v o y hv hh
          obtain ⟨cur, t, fr, a1, a2⟩ := hh
          refine ⟨cur, t, fr, a1, fun i j kd a hi hj => ?_⟩
          simp only [E.val, hv, r0] at hi ⊢
          have hj0 : j = 0 := by have := (List.getElem?_eq_some_iff.1 hj).1; simpa using this
          subst hj0
          simp only [List.getElem?_cons_zero, Option.some.injEq, Prod.mk.injEq] at hj
          obtain ⟨rfl, rfl⟩ := hj
          rw [r3, Int.toNat_natCast]
          exact a2 i 0 _ _ hi rfl
        have hM' : RM ρ' [] w [(b1', c1'), (b2', c2')] rowsM w := by
          have get : ∀ n kb, rowsM.blks.get n = some kb → (n = 0 ∧ kb = .arr (.v 1063) (.v 0) [(.u32, 0)]) ∨ (n = 1 ∧ kb = .arr (.v 1062) (.v 0) [(.u32, 0)]) := by
            intro n kb hn
            have hn : (((PT.full none 14).set 1 (.arr (.v 1062) (.v 0) [(.u32, 0)])).set 0 (.arr (.v 1063) (.v 0) [(.u32, 0)])).get n = some kb := hn
            rcases PT.get_set _ _ _ _ _ hn with ⟨e, e2⟩ | ⟨_, hn⟩
            · exact .inl ⟨e, e2⟩
            · rcases PT.get_set _ _ _ _ _ hn with ⟨e, e2⟩ | ⟨_, hn⟩
              · exact .inr ⟨e, e2⟩
              · have := PT.get_full _ _ _ _ hn
                cases this
          refine ⟨Fr.refl [] w, rfl, ?_, ?_, ?_⟩
          · intro n kb hn
            rcases get n kb hn with ⟨rfl, rfl⟩ | ⟨rfl, rfl⟩
            · exact ⟨b1', c1', rfl, holds_pre (σ := []) (one (y := (b1', c1')) r1 k1)⟩
            · exact ⟨b2', c2', rfl, holds_pre (σ := []) (one (y := (b2', c2')) r2 k2)⟩
          · intro n b c hl hs
            have hl : 2 ≤ n := hl
            rw [List.getElem?_eq_none (by simpa using hl)] at hs; cases hs
          · intro i j a b hi hj hne _ _ hro
            rcases get i a hi with ⟨rfl, rfl⟩ | ⟨rfl, rfl⟩ <;> rcases get j b hj with ⟨rfl, rfl⟩ | ⟨rfl, rfl⟩ <;> simp [Blk.ro] at hro
        have hd : denL ρ' [(b1', c1'), (b2', c2')] rowsArgs = some [.slice (some ⟨b1', (o1.val ρ).toNat, none⟩) (l1.val ρ).toNat c1', .slice (some ⟨b2', (o2.val ρ).toNat, none⟩) (l1.val ρ).toNat c2'] := by
          simp only [rowsArgs, denL, den, E.val, r0, r1, r2, Int.toNat_natCast, List.getElem?_cons_zero, List.getElem?_cons_succ]
        refine (topCall_ok hm (fun ρ => noH_ok) hrun hg' (globs0 _) hM' hd).mono ?_
        rintro e w' ⟨rfl, hb⟩
        have hfr : Fr [] w w' := ⟨hb.1, hb.2, hb.3, hb.4, fun k hk _ => hb.5 k hk⟩
        have h2 := hall [] w' (by rw [List.append_nil]; exact hM.grow hfr)
        rw [List.append_nil] at h2
        exact h2 _ rfl
      · cases h
    · cases h
  · cases h
end Go.Proofs.YtoiadmdnfcgckaaGreatDoor.Sy
