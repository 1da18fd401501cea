/- The evaluator over memory known by name: arithmetic and tests. -/
import Derived.Test.YtkjfhkhcoenanaaSymC
import Derived.Laws.StructEq
import Derived.ChangeKeysEq
namespace Go.Proofs.Ytkjfhkhcoenanaa.Sy
open Go.RowKit

theorem eqI_eq (a b : Int) : eqI a b = decide (a = b) := by
  cases a <;> cases b <;> simp only [eqI]
  · rename_i a b
    by_cases h : a = b
    · subst h; simp
    · have : Nat.beq a b = false := by rw [Bool.eq_false_iff]; intro hh; exact h (Nat.eq_of_beq_eq_true hh)
      rw [this]; symm; rw [decide_eq_false_iff_not]; intro hh; exact h (by injection hh)
  · symm; rw [decide_eq_false_iff_not]; intro h; cases h
  · symm; rw [decide_eq_false_iff_not]; intro h; cases h
  · rename_i a b
    by_cases h : a = b
    · subst h; simp
    · have : Nat.beq a b = false := by rw [Bool.eq_false_iff]; intro hh; exact h (Nat.eq_of_beq_eq_true hh)
      rw [this]; symm; rw [decide_eq_false_iff_not]; intro hh; exact h (by injection hh)
theorem ltI_eq (a b : Int) : ltI a b = decide (a < b) := by
  rw [Bool.eq_iff_iff, decide_eq_true_iff]
  cases a <;> cases b <;> simp only [ltI] <;> rename_i a b
  · rw [Nat.blt_eq]; show _ ↔ (a : Int) < (b : Int); omega
  · show false = true ↔ (a : Int) < Int.negSucc b
    have := Int.negSucc_lt_zero b
    constructor
    · intro h; cases h
    · intro h; omega
  · have := Int.negSucc_lt_zero a
    have h2 : (0 : Int) ≤ Int.ofNat b := Int.natCast_nonneg b
    exact ⟨fun _ => by omega, fun _ => by trivial⟩
  · rw [Nat.blt_eq, Int.negSucc_eq, Int.negSucc_eq]; omega

theorem cmpS_eq (op : BinOp) (x y : Int) : cmpS op x y = cmpD op x y := by
  cases op <;> simp only [cmpS, cmpD, eqI_eq, ltI_eq]
  · rw [Bool.eq_iff_iff]; simp
  · rw [Bool.eq_iff_iff]; simp

theorem mkN_val (s : Bool) (n : Int) : (mkN s n).val = n := by cases s <;> rfl
theorem DB.not_val (b : DB) : b.not.val = !b.val := by cases b <;> rfl

section
variable {P : Program} {w : World}

theorem run_cmp {op : BinOp} (h : isCmp op = true) (k : IntKind) (x y : Int) (t : TypeId) : (binOp op t (.int k x) (.int k y)).run P w = .ok (.bool (cmpD op x y)) w := by
  cases op <;> simp only [isCmp, Bool.false_eq_true] at h <;> simp [binOp, Op.intCmp, cmpD]
  · rfl
  · rfl
theorem run_arith {op : BinOp} {k : IntKind} {x y r : Int} (h : isArith op = true) (hr : arith op k x y = some r) (t : TypeId) : (binOp op t (.int k x) (.int k y)).run P w = .ok (.int k r) w := by
  cases op <;> simp only [isArith, Bool.false_eq_true] at h <;> simp only [arith, Option.some.injEq] at hr <;> subst hr <;> simp [binOp, Op.intArith, Op.intBits, bAnd, bOr, bXor, bClr]
theorem run_div {op : BinOp} {k : IntKind} {x y r : Int} (hr : divI op k x y = some r) (hy : y ≠ 0) (t : TypeId) : (binOp op t (.int k x) (.int k y)).run P w = .ok (.int k r) w := by
  cases op <;> simp only [divI, Option.some.injEq] at hr <;> first | (subst hr; simp [binOp, Op.intDiv, hy]; done) | cases hr
theorem run_shift {op : BinOp} {k j : IntKind} {x y r : Int} (hr : shiftI op k x y = some r) (hy : ¬ y < 0) (t : TypeId) : (binOp op t (.int k x) (.int j y)).run P w = .ok (.int k r) w := by
  cases op <;> simp only [shiftI, Option.some.injEq] at hr <;> first | (subst hr; simp [binOp, Op.shift, hy, bShl, bShr]; done) | cases hr

/-- what '==' does -/
def eqRun (P : Program) (w : World) (t : TypeId) (x y : Value) (b : Bool) : Prop := (Op.equal t x y).run P w = .ok b w
theorem eqRun_of {t : TypeId} {x y : Value} {b : Bool} (h : ∀ d, (Op.equalIn (d + 1) t x y).run P w = .ok b w) : eqRun P w t x y b := h 9999

variable {σ : List (Nat × Nat)}
theorem den_ptr {b o : Nat} {x : Value} (h : den σ (.ptr b o) = some x) : ∃ y, σ[b]? = some y ∧ x = .pointer (some ⟨y.1, o, none⟩) := by
  simp only [den] at h
  split at h
  · rename_i y hy; cases h; exact ⟨y, hy, rfl⟩
  · cases h
theorem den_slice {b o l : Nat} {c : Cp} {x : Value} (h : den σ (.slice b o l c) = some x) : ∃ y, σ[b]? = some y ∧ x = .slice (some ⟨y.1, o, none⟩) l (c.den y.2) := by
  simp only [den] at h
  split at h
  · rename_i y hy; cases h; exact ⟨y, hy, rfl⟩
  · cases h
theorem den_func {f : Fn} {a c : List V} {x : Value} (h : den σ (.func f a c) = some x) : ∃ y z, denL σ a = some y ∧ denL σ c = some z ∧ x = .func f y.toArray z.toArray := by
  simp only [den] at h
  split at h
  · rename_i y hy
    split at h
    · rename_i z hz; cases h; exact ⟨y, z, hy, hz, rfl⟩
    · cases h
  · cases h
theorem den_iface {t : TypeId} {v : V} {x : Value} (h : den σ (.iface t v) = some x) : ∃ y, den σ v = some y ∧ x = .iface t y := by
  simp only [den] at h
  split at h
  · rename_i y hy; cases h; exact ⟨y, hy, rfl⟩
  · cases h
theorem den_agg {cs : List V} {x : Value} (h : den σ (.agg cs) = some x) : ∃ y, denL σ cs = some y ∧ x = .agg y.toArray := by
  simp only [den] at h
  split at h
  · rename_i y hy; cases h; exact ⟨y, hy, rfl⟩
  · cases h
theorem den_tup {cs : List V} {x : Value} (h : den σ (.tup cs) = some x) : ∃ y, denL σ cs = some y ∧ x = .tuple y.toArray := by
  simp only [den] at h
  split at h
  · rename_i y hy; cases h; exact ⟨y, hy, rfl⟩
  · cases h
theorem den_int {k : IntKind} {n : DN} {x : Value} (h : den σ (.int k n) = some x) : x = .int k n.val := by
  simp only [den, Option.some.injEq] at h; exact h.symm
theorem den_bool {b : DB} {x : Value} (h : den σ (.bool b) = some x) : x = .bool b.val := by
  simp only [den, Option.some.injEq] at h; exact h.symm

theorem DB.and_val (a b : DB) : (a.and b).val = (a.val && b.val) := by
  cases a with
  | s a => cases a <;> rfl
  | d a => rfl
theorem eqN_val (a b : DN) : (eqN a b).val = (a.val == b.val) := by
  have key : ∀ x y : Int, decide (x = y) = (x == y) := by intro x y; rw [Bool.eq_iff_iff]; simp
  cases a <;> cases b <;> simp only [eqN, DB.val, DN.val, eqI_eq] <;> exact key _ _
theorem eqBo_val (a b : DB) : (eqBo a b).val = (a.val == b.val) := by
  cases a with
  | s a => cases a with
    | true => simp [eqBo, DB.val]
    | false => cases b with
      | s b => cases b <;> rfl
      | d b => rfl
  | d a => cases b <;> rfl
theorem upto_eq : ∀ k i, upto k i = List.range' i k
  | 0, i => rfl
  | k + 1, i => by rw [upto, upto_eq k (i + 1), List.range'_succ]
/-- what a test of two parts does -/
def EqRun (P : Program) (σ : List (Nat × Nat)) (d : Nat) (g : TypeId → V → V → Option DB) : Prop :=
  ∀ (t : TypeId) (x y : V) (a b : Value) (r : DB), g t x y = some r → den σ x = some a → den σ y = some b → ∀ w, (Op.equalIn d t a b).run P w = .ok r.val w
theorem eqFs_run {d : Nat} {g : TypeId → V → V → Option DB} (hg : EqRun P σ d g) {cs ds : List V} {xs ys : List Value} (hx : denL σ cs = some xs) (hy : denL σ ds = some ys) (w : World) :
    ∀ (fs : List Field) (r : DB), eqFs P g cs ds fs = some r → (Op.eqFields d xs.toArray ys.toArray fs).run P w = .ok r.val w
  | [], r, h => by simp only [eqFs, Option.some.injEq] at h; subst h; simp [Op.eqFields, DB.val]
  | f :: fs, r, h => by
    simp only [eqFs] at h
    split at h
    · cases h
    · rename_i hn
      have hn : f.name ≠ "_" := by simpa using hn
      split at h
      · rename_i x y h1 h2
        obtain ⟨a, ha, hr1⟩ := sub_part h1 hx
        obtain ⟨b, hb, hr2⟩ := sub_part h2 hy
        simp only [Op.eqFields, hn, ne_eq, not_false_eq_true, if_true, Sem.run_bind, hr1, hr2, Result.andThen_ok]
        split at h
        · rename_i h3
          cases h
          rw [hg _ _ _ _ _ _ h3 ha hb]
          simp [DB.val]
        · rename_i q hq h3
          rw [hg _ _ _ _ _ _ h3 ha hb]
          split at h
          · rename_i q2 h4
            cases h
            have ih := eqFs_run hg hx hy w fs q2 h4
            simp only [Result.andThen_ok, DB.and_val]
            cases q.val
            · simp
            · simpa using ih
          · cases h
        · cases h
      · cases h
theorem eqIs_run {d : Nat} {g : TypeId → V → V → Option DB} (hg : EqRun P σ d g) {cs ds : List V} {xs ys : List Value} (hx : denL σ cs = some xs) (hy : denL σ ds = some ys) {e : TypeId} {z : Nat} (w : World) :
    ∀ (is : List Nat) (r : DB), eqIs P g e z cs ds is = some r → (Op.eqItems d e z xs.toArray ys.toArray is).run P w = .ok r.val w
  | [], r, h => by simp only [eqIs, Option.some.injEq] at h; subst h; simp [Op.eqItems, DB.val]
  | i :: is, r, h => by
    simp only [eqIs] at h
    split at h
    · rename_i x y h1 h2
      obtain ⟨a, ha, hr1⟩ := sub_part h1 hx
      obtain ⟨b, hb, hr2⟩ := sub_part h2 hy
      simp only [Op.eqItems, Sem.run_bind, hr1, hr2, Result.andThen_ok]
      split at h
      · rename_i h3
        cases h
        rw [hg _ _ _ _ _ _ h3 ha hb]
        simp [DB.val]
      · rename_i q hq h3
        rw [hg _ _ _ _ _ _ h3 ha hb]
        split at h
        · rename_i q2 h4
          cases h
          have ih := eqIs_run hg hx hy w is q2 h4
          simp only [Result.andThen_ok, DB.and_val]
          cases q.val
          · simp
          · simpa using ih
        · cases h
      · cases h
    · cases h
theorem eqV_run (dd : Nat) : ∀ d, EqRun P σ (dd + d) (eqV P d)
  | 0 => by intro t x y a b r h; simp [eqV] at h
  | d + 1 => by
    intro t x y a b r h ha hb w
    have ih := eqV_run dd d
    rw [show dd + (d + 1) = (dd + d) + 1 from rfl]
    simp only [eqV] at h
    split at h
    · rename_i hu
      split at h
      · cases h
        cases (den_bool ha)
        cases (den_bool hb)
        rw [eqBo_val]
        simp only [Op.equalIn, Sem.run_bind, run_underlying hu, Result.andThen_ok]
        rfl
      · cases h
    · rename_i hu
      split at h
      · rename_i j p k q
        split at h
        · rename_i hjk
          have hjk := of_decide_eq_true hjk
          subst hjk
          cases h
          cases (den_int ha)
          cases (den_int hb)
          rw [eqN_val]
          simp only [Op.equalIn, Sem.run_bind, run_underlying hu, Result.andThen_ok]
          simp
        · cases h
      · cases h
    · rename_i n e hu
      split at h
      · rename_i cs ds
        obtain ⟨xs, hx, rfl⟩ := den_agg ha
        obtain ⟨ys, hy, rfl⟩ := den_agg hb
        split at h
        · rename_i z hz
          unfold size? at hz
          split at hz
          · rename_i i hi
            cases hz
            have hc : P.cellsOf e = i.size := by simp [Program.cellsOf, hi]
            rw [run_equalIn_array w (dd + d) _ _ hu hi, hc, List.range_eq_range', ← upto_eq]
            exact eqIs_run ih hx hy w _ r h
          · cases hz
        · cases h
      · cases h
    · rename_i fs hu
      split at h
      · rename_i cs ds
        obtain ⟨xs, hx, rfl⟩ := den_agg ha
        obtain ⟨ys, hy, rfl⟩ := den_agg hb
        split at h
        · rename_i hst
          have hf : P.fieldsOf t = fs := by simp [Program.fieldsOf, hu]
          rw [run_equalIn_struct w (dd + d) t _ _ (by rw [hf]; exact hu) hst, hf]
          exact eqFs_run ih hx hy w _ r h
        · cases h
      · cases h
    · cases h

/-- values of which '==' may ask -/
def plainEq : V → Bool
  | .int _ _ | .agg _ => false
  | _ => true
theorem same_run {t : TypeId} {cst : Bool} {x y : V} {r : DB} {a b : Value} (h : same P t cst x y = some r) (ha : den σ x = some a) (hb : den σ y = some b) (w : World) :
    eqRun P w t a b r.val ∧ (∀ k n j m, ¬ (a = .int k n ∧ b = .int j m)) ∧ (∀ s s', ¬ (a = .string s ∧ b = .string s')) ∧ (∀ cs ds, a = .agg cs → b = .agg ds → P.eqGuardType P.depth t = false) ∧ (a = .nilIface → b = .nilIface → cst = true) ∧ (∀ k n j m, ¬ (a = .float k n ∧ b = .float j m)) ∧ (∀ k n n' j m m', ¬ (a = .complex k n n' ∧ b = .complex j m m')) := by
  unfold same at h
  split at h
  · rename_i hu
    split at h
    all_goals first | cases h | skip
    all_goals
      cases (den_bool ha)
      cases (den_bool hb)
      refine ⟨?_, by simp, by simp, by simp, by simp, by simp, by simp⟩
      refine eqRun_of fun d => ?_
      simp only [Op.equalIn, Sem.run_bind, run_underlying hu, Result.andThen_ok]
      simp [DB.val]
  · rename_i e hu
    split at h
    · cases h
      simp only [den, Option.some.injEq] at ha hb
      subst ha; subst hb
      refine ⟨?_, by simp, by simp, by simp, by simp, by simp, by simp⟩
      refine eqRun_of fun d => ?_
      simp only [Op.equalIn, Sem.run_bind, run_underlying hu, Result.andThen_ok]
      rfl
    · cases h
      simp only [den, Option.some.injEq] at ha
      obtain ⟨y, _, rfl⟩ := den_ptr hb
      subst ha
      refine ⟨?_, by simp, by simp, by simp, by simp, by simp, by simp⟩
      refine eqRun_of fun d => ?_
      simp only [Op.equalIn, Sem.run_bind, run_underlying hu, Result.andThen_ok]
      rfl
    · cases h
      simp only [den, Option.some.injEq] at hb
      obtain ⟨y, _, rfl⟩ := den_ptr ha
      subst hb
      refine ⟨?_, by simp, by simp, by simp, by simp, by simp, by simp⟩
      refine eqRun_of fun d => ?_
      simp only [Op.equalIn, Sem.run_bind, run_underlying hu, Result.andThen_ok]
      rfl
    · rename_i b1 o1 b2 o2
      split at h
      · rename_i z hz
        split at h
        · rename_i hc
          cases h
          simp only [Bool.and_eq_true] at hc
          obtain ⟨hc1, hc2⟩ := hc
          have e := Nat.eq_of_beq_eq_true hc1
          subst e
          obtain ⟨y1, h1, rfl⟩ := den_ptr ha
          obtain ⟨y2, h2, rfl⟩ := den_ptr hb
          rw [h1] at h2; cases h2
          refine ⟨?_, by simp, by simp, by simp, by simp, by simp, by simp⟩
          have hz0 : z ≠ 0 := by have : 0 < z := by simpa using hc2
                                 omega
          have e2 : Nat.beq o1 o2 = decide (o1 = o2) := by rw [Bool.eq_iff_iff, decide_eq_true_iff]; exact ⟨Nat.eq_of_beq_eq_true, fun h => by subst h; simp⟩
          refine eqRun_of fun d => ?_
          simp only [Op.equalIn, run_underlying hu, DB.val, Sem.run_bind, Result.andThen_ok, size_run hz w, hz0, ne_eq, not_false_eq_true, if_true, sameAddr, beq_self_eq_true]
          simp only [Sem.run_pure, e2]
          congr 1
          rw [Bool.eq_iff_iff]
          simp
        · cases h
      · cases h
    · cases h
  · rename_i hu
    split at h
    · split at h
      · cases h
        simp only [den, Option.some.injEq] at ha hb
        subst ha; subst hb
        refine ⟨?_, by simp, by simp, by simp, by simp, by simp, by simp⟩
        refine eqRun_of fun d => ?_
        simp only [Op.equalIn, Sem.run_bind, run_underlying hu, Result.andThen_ok]
        rfl
      · cases h
    · cases h
      simp only [den, Option.some.injEq] at ha
      obtain ⟨y, _, rfl⟩ := den_iface hb
      subst ha
      refine ⟨?_, by simp, by simp, by simp, by simp, by simp, by simp⟩
      refine eqRun_of fun d => ?_
      simp only [Op.equalIn, Sem.run_bind, run_underlying hu, Result.andThen_ok]
      rfl
    · cases h
      simp only [den, Option.some.injEq] at hb
      obtain ⟨y, _, rfl⟩ := den_iface ha
      subst hb
      refine ⟨?_, by simp, by simp, by simp, by simp, by simp, by simp⟩
      refine eqRun_of fun d => ?_
      simp only [Op.equalIn, Sem.run_bind, run_underlying hu, Result.andThen_ok]
      rfl
    · cases h
  · rename_i hu
    split at h
    · cases h
      simp only [den, Option.some.injEq] at ha hb
      subst ha; subst hb
      refine ⟨?_, by simp, by simp, by simp, by simp, by simp, by simp⟩
      refine eqRun_of fun d => ?_
      simp only [Op.equalIn, Sem.run_bind, run_underlying hu, Result.andThen_ok]
      rfl
    · cases h
      simp only [den, Option.some.injEq] at ha
      obtain ⟨y, _, rfl⟩ := den_slice hb
      subst ha
      refine ⟨?_, by simp, by simp, by simp, by simp, by simp, by simp⟩
      refine eqRun_of fun d => ?_
      simp only [Op.equalIn, Sem.run_bind, run_underlying hu, Result.andThen_ok]
      rfl
    · cases h
      simp only [den, Option.some.injEq] at hb
      obtain ⟨y, _, rfl⟩ := den_slice ha
      subst hb
      refine ⟨?_, by simp, by simp, by simp, by simp, by simp, by simp⟩
      refine eqRun_of fun d => ?_
      simp only [Op.equalIn, Sem.run_bind, run_underlying hu, Result.andThen_ok]
      rfl
    · cases h
  · rename_i hu
    split at h
    · cases h
      simp only [den, Option.some.injEq] at ha hb
      subst ha; subst hb
      refine ⟨?_, by simp, by simp, by simp, by simp, by simp, by simp⟩
      refine eqRun_of fun d => ?_
      simp only [Op.equalIn, Sem.run_bind, run_underlying hu, Result.andThen_ok]
      rfl
    · cases h
      simp only [den, Option.some.injEq] at ha
      obtain ⟨y, z, _, _, rfl⟩ := den_func hb
      subst ha
      refine ⟨?_, by simp, by simp, by simp, by simp, by simp, by simp⟩
      refine eqRun_of fun d => ?_
      simp only [Op.equalIn, Sem.run_bind, run_underlying hu, Result.andThen_ok]
      rfl
    · cases h
      simp only [den, Option.some.injEq] at hb
      obtain ⟨y, z, _, _, rfl⟩ := den_func ha
      subst hb
      refine ⟨?_, by simp, by simp, by simp, by simp, by simp, by simp⟩
      refine eqRun_of fun d => ?_
      simp only [Op.equalIn, Sem.run_bind, run_underlying hu, Result.andThen_ok]
      rfl
    · cases h
  · rename_i hu
    split at h
    · rename_i hg
      have hrun := eqV_run (P := P) (σ := σ) 9988 12 t x y a b r h ha hb w
      have hagg : ∃ cs ds, x = .agg cs ∧ y = .agg ds := by
        simp only [eqV, hu] at h
        split at h
        · exact ⟨_, _, rfl, rfl⟩
        · cases h
      obtain ⟨cs, ds, rfl, rfl⟩ := hagg
      obtain ⟨xs, hx, rfl⟩ := den_agg ha
      obtain ⟨ys, hy, rfl⟩ := den_agg hb
      exact ⟨hrun, by simp, by simp, fun _ _ _ _ => hg, by simp, by simp, by simp⟩
    · cases h
  · rename_i hu
    split at h
    · rename_i hg
      have hrun := eqV_run (P := P) (σ := σ) 9988 12 t x y a b r h ha hb w
      have hagg : ∃ cs ds, x = .agg cs ∧ y = .agg ds := by
        simp only [eqV, hu] at h
        split at h
        · exact ⟨_, _, rfl, rfl⟩
        · cases h
      obtain ⟨cs, ds, rfl, rfl⟩ := hagg
      obtain ⟨xs, hx, rfl⟩ := den_agg ha
      obtain ⟨ys, hy, rfl⟩ := den_agg hb
      exact ⟨hrun, by simp, by simp, fun _ _ _ _ => hg, by simp, by simp, by simp⟩
    · cases h
  · cases h
end
end Go.Proofs.Ytkjfhkhcoenanaa.Sy
