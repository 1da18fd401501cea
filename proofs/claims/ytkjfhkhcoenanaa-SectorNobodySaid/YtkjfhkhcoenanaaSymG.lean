/- The evaluator over memory known by name: each operation that leaves memory alone. -/
import Derived.Test.YtkjfhkhcoenanaaSymF
namespace Go.Proofs.Ytkjfhkhcoenanaa.Sy
open Go.RowKit

section
variable {P : Program} {σ : List (Nat × Nat)} {n : Nat} {tm : PT V} {a : Act} {m : Mem} {o : Oper} {K : R → Prop}

theorem un_run {op : UnOp} {x v : V} {b : Value} (h : un op x = some v) (hb : den σ x = some b) : ∃ z, den σ v = some z ∧ ∀ w, (Op.unary op b).run P w = .ok z w := by
  unfold un at h
  split at h
  · cases h; cases (den_int hb)
    refine ⟨_, rfl, fun w => ?_⟩
    rw [mkN_val]; rfl
  · cases h; cases (den_int hb)
    refine ⟨_, rfl, fun w => ?_⟩
    rw [mkN_val]; rfl
  · cases h; cases (den_bool hb)
    refine ⟨_, rfl, fun w => ?_⟩
    rw [DB.not_val]; rfl
  · cases h
theorem conv_run {s d : TypeId} {x v : V} {b : Value} (h : conv P s d x = some v) (hb : den σ x = some b) : ∃ z, den σ v = some z ∧ ∀ w, (convert s d b).run P w = .ok z w := by
  unfold conv at h
  split at h
  · rename_i hs hd
    cases h; cases (den_int hb)
    refine ⟨_, rfl, fun w => ?_⟩
    rw [mkN_val]
    unfold convert
    simp [run_underlying hs, run_underlying hd, Conv.intToInt]
  · rename_i hs hd
    cases h
    simp only [den, Option.some.injEq] at hb; subst hb
    refine ⟨_, rfl, fun w => ?_⟩
    unfold convert
    simp [run_underlying hs, run_underlying hd]
  · cases h
theorem ixT_ex {α : Type} {Q : α → Prop} {i : DN} {k : Nat} {f : Nat → T α} (h : (ixT i k f).all Q) : ∃ j : Nat, i.val = (j : Int) ∧ j < k ∧ (f j).all Q := by
  unfold ixT at h
  split at h
  · split at h
    · rename_i j
      split at h
      · rename_i hj; exact ⟨j, rfl, by simpa using hj, h⟩
      · cases h
    · cases h
  · cases h
theorem field_run {t : TypeId} {f : Nat} {fd : Field} (h : fieldOf P t f = some fd) : ∃ fs, P.underlying t = some (.struct fs) ∧ fs[f]? = some fd := by
  unfold fieldOf at h
  split at h
  · rename_i fs hu
    rw [nth_eq] at h
    exact ⟨fs, hu, by simpa using h⟩
  · cases h

theorem boundV_ex {x : Option V} {d top : Nat} {f : Nat → T R} {K : R → Prop} (h : (boundV x d top f).all K) : ∃ i : Nat, (f i).all K ∧ ((x = none ∧ i = d) ∨ (∃ k, x = some (.int k (.s (i : Int))) ∧ i ≤ top)) := by
  unfold boundV at h
  split at h
  · exact ⟨d, h, .inl ⟨rfl, rfl⟩⟩
  · rename_i k i
    split at h
    · rename_i hi; exact ⟨i, h, .inr ⟨k, rfl, Nat.le_of_ble_eq_true hi⟩⟩
    · cases h
  · cases h

/-- a bound that is there, or not -/
def BRun (lo : Option V) (v : Option Value) : Prop := match lo, v with
  | none, none => True
  | some x, some y => den ([] : List (Nat × Nat)) x = some y ∨ ∃ k i, x = .int k i ∧ y = .int k i.val
  | _, _ => False
theorem bound_run {σ : List (Nat × Nat)} {k : IntKind} {i : Nat} {y : Value} (h : den σ (.int k (.s (i : Int))) = some y) {top : Nat} (hi : i ≤ top) (c : BoundsCode) (w : World) : (Instr.sliceBound y top c).run P w = .ok i w := by
  cases (den_int h)
  have : (0 : Int) ≤ (i : Int) ∧ (i : Int) ≤ (top : Int) := by omega
  simp only [Instr.sliceBound, asIntOf, Sem.run_bind, Sem.run_pure, Result.andThen_ok, DN.val, this, if_true, and_self]
  rfl
theorem bounds_run {isS : Bool} {len cap : Nat} {lo hi : Option V} {lo' hi' : Option Value} {l h d : Nat} (hd : d = len) (hlo : lo = none ∧ lo' = none ∨ ∃ x y, lo = some x ∧ lo' = some y ∧ den σ x = some y) (hhi : hi = none ∧ hi' = none ∨ ∃ x y, hi = some x ∧ hi' = some y ∧ den σ x = some y)
    {top : Nat} (htop : top ≤ cap) (h1 : (hi = none ∧ h = d) ∨ (∃ k, hi = some (.int k (.s (h : Int))) ∧ h ≤ top)) (h2 : (lo = none ∧ l = 0) ∨ (∃ k, lo = some (.int k (.s (l : Int))) ∧ l ≤ h)) (w : World) :
    (Instr.sliceBounds isS len cap lo' hi' none).run P w = .ok (l, h, cap) w := by
  subst hd
  rcases hlo with ⟨rfl, rfl⟩ | ⟨x, y, rfl, rfl, hx⟩ <;> rcases hhi with ⟨rfl, rfl⟩ | ⟨x', y', rfl, rfl, hx'⟩
  · rcases h1 with ⟨_, rfl⟩ | ⟨k, hk, _⟩
    · rcases h2 with ⟨_, rfl⟩ | ⟨k, hk, _⟩
      · simp [Instr.sliceBounds]
      · cases hk
    · cases hk
  · rcases h1 with ⟨hk, _⟩ | ⟨k, hk, hle⟩
    · cases hk
    · rcases h2 with ⟨_, rfl⟩ | ⟨k, hk, _⟩
      · simp only [Option.some.injEq] at hk; subst hk
        simp [Instr.sliceBounds, bound_run hx' (show h ≤ cap by omega)]
      · cases hk
  · rcases h1 with ⟨_, rfl⟩ | ⟨k, hk, _⟩
    · rcases h2 with ⟨hk, _⟩ | ⟨k, hk, hle⟩
      · cases hk
      · simp only [Option.some.injEq] at hk; subst hk
        simp [Instr.sliceBounds, bound_run hx hle]
    · cases hk
  · rcases h1 with ⟨hk, _⟩ | ⟨k, hk, hle⟩
    · cases hk
    · rcases h2 with ⟨hk2, _⟩ | ⟨k2, hk2, hle2⟩
      · cases hk2
      · simp only [Option.some.injEq] at hk hk2; subst hk; subst hk2
        simp [Instr.sliceBounds, bound_run hx' (show h ≤ cap by omega), bound_run hx hle2]

theorem sliceV_run {t : TypeId} {x : V} {lo hi : Option V} {lo' hi' : Option Value} {y : Value} (h : (sliceV P t x lo hi).all K) (hx : den σ x = some y) (hlo : lo = none ∧ lo' = none ∨ ∃ x y, lo = some x ∧ lo' = some y ∧ den σ x = some y) (hhi : hi = none ∧ hi' = none ∨ ∃ x y, hi = some x ∧ hi' = some y ∧ den σ x = some y) :
    ∃ v, K (.val v) ∧ ∃ z, den σ v = some z ∧ ∀ w, (Instr.sliceAt t y lo' hi' none).run P w = .ok z w := by
  unfold sliceV at h
  split at h
  · rename_i e hu
    split at h
    · cases h
    · rename_i z hz
      split at h
      · rename_i b o l c
        obtain ⟨hh, hh1, hh2⟩ := boundV_ex h
        obtain ⟨i, hi1, hi2⟩ := boundV_ex hh1
        obtain ⟨y', hy, rfl⟩ := den_slice hx
        refine ⟨_, hi1, .slice (some (if c = i then ⟨y'.1, o, none⟩ else ⟨y'.1, o + i * z, none⟩)) (hh - i) (c - i), ?_, fun w => ?_⟩
        · simp only [den, hy, Cp.den]
          cases hb : Nat.beq c i with
          | true => rw [if_pos (Nat.eq_of_beq_eq_true hb)]
          | false => rw [if_neg (fun e => by subst e; simp at hb)]
        · unfold Instr.sliceAt
          simp only [Sem.run_bind, run_underlying hu, Result.andThen_ok]
          unfold Instr.slice
          simp only [Sem.run_bind, run_underlying hu, Result.andThen_ok, Cp.den, bounds_run (P := P) (isS := true) rfl hlo hhi (Nat.le_refl c) hh2 hi2 w, size_run hz w, Sem.run_pure, Option.map_some, addr_add]
          split <;> rfl
      · obtain ⟨hh, hh1, hh2⟩ := boundV_ex h
        obtain ⟨i, hi1, hi2⟩ := boundV_ex hh1
        simp only [den, Option.some.injEq] at hx
        subst hx
        have hh0 : hh = 0 := by rcases hh2 with ⟨_, e⟩ | ⟨_, _, e⟩ <;> omega
        subst hh0
        have hi0 : i = 0 := by rcases hi2 with ⟨_, e⟩ | ⟨_, _, e⟩ <;> omega
        subst hi0
        refine ⟨_, hi1, .slice none 0 0, rfl, fun w => ?_⟩
        unfold Instr.sliceAt
        simp only [Sem.run_bind, run_underlying hu, Result.andThen_ok]
        unfold Instr.slice
        simp only [Sem.run_bind, run_underlying hu, Result.andThen_ok, bounds_run (P := P) (isS := true) rfl hlo hhi (Nat.le_refl 0) hh2 hi2 w, size_run hz w, Sem.run_pure, Option.map_none]
        rfl
      · cases h
  · rename_i k e hu
    split at h
    · rename_i z b o hz
      obtain ⟨hh, hh1, hh2⟩ := boundV_ex h
      obtain ⟨i, hi1, hi2⟩ := boundV_ex hh1
      obtain ⟨y', hy, rfl⟩ := den_ptr hx
      refine ⟨_, hi1, .slice (some (if k = i then ⟨y'.1, o, none⟩ else ⟨y'.1, o + i * z, none⟩)) (hh - i) (k - i), ?_, fun w => ?_⟩
      · simp only [den, hy, Cp.den]
        cases hb : Nat.beq k i with
        | true => rw [if_pos (Nat.eq_of_beq_eq_true hb)]
        | false => rw [if_neg (fun e => by subst e; simp at hb)]
      · unfold Instr.sliceAt
        simp only [Sem.run_bind, run_underlying hu, Result.andThen_ok, Instr.sureAddr, Sem.run_pure, bounds_run (P := P) (isS := false) rfl hlo hhi (Nat.le_refl k) hh2 hi2 w, size_run hz w, addr_add]
    · cases h
  · cases h
end
end Go.Proofs.Ytkjfhkhcoenanaa.Sy
