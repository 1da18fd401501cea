/- The evaluator over memory known by name: each operation that leaves memory alone. -/
import Derived.Test.YthndnammnnallaaSymF
namespace Go.Proofs.Ythndnammnnallaa.Sy
open Go.RowKit

section
variable {P : Program} {ρ : Nat → Int} {g : G} {σ : List (Nat × Nat)} {n : Nat} {tm : TM} {a : Act} {m : Mem} {o : Oper} {K : R → Prop}

theorem un_run (hg : Gok ρ g) {op : UnOp} {x v : V} {b : Value} (h : un g op x = some v) (hb : den ρ σ x = some b) : ∃ z, den ρ σ v = some z ∧ ∀ w, (Op.unary op b).run P w = .ok z w := by
  unfold un at h
  split at h
  · split at h
    · obtain ⟨_, hr, rfl⟩ := oint_some h; cases hr; cases (den_int hb)
      exact ⟨_, rfl, fun w => by simp only [DN.val, wrapI_eq]; rfl⟩
    · obtain ⟨_, hr, rfl⟩ := oint_some h; cases hr; cases (den_int hb)
      refine ⟨_, rfl, fun w => ?_⟩
      rw [wrapE_val hg]; rfl
  · split at h
    · obtain ⟨_, hr, rfl⟩ := oint_some h; cases hr; cases (den_int hb)
      exact ⟨_, rfl, fun w => rfl⟩
    · obtain ⟨_, hr, rfl⟩ := oint_some h; cases hr; cases (den_int hb)
      refine ⟨_, rfl, fun w => ?_⟩
      rw [mkE_val hg]; rfl
  · cases obool_some h; cases (den_bool hb)
    refine ⟨_, rfl, fun w => ?_⟩
    rw [DB.not_val]; rfl
  · cases h
theorem wrapN_val (hg : Gok ρ g) (k : IntKind) (n : DN) : (wrapN g k n).val ρ = k.wrap (n.val ρ) := by
  cases n with
  | s n => exact wrapI_eq k n
  | d e => exact wrapE_val hg k e
theorem conv_run (hg : Gok ρ g) {s d : TypeId} {x v : V} {b : Value} (h : conv P g s d x = some v) (hb : den ρ σ x = some b) : ∃ z, den ρ σ v = some z ∧ ∀ w, (convert s d b).run P w = .ok z w := by
  unfold conv at h
  split at h
  · rename_i hs hd
    obtain ⟨_, hr, rfl⟩ := oint_some h; cases hr; cases (den_int hb)
    refine ⟨_, rfl, fun w => ?_⟩
    rw [wrapN_val hg]
    unfold convert
    simp [run_underlying (und_eq hs), run_underlying (und_eq hd), Conv.intToInt]
  · rename_i hs hd
    cases h
    simp only [den, Option.some.injEq] at hb; subst hb
    refine ⟨_, rfl, fun w => ?_⟩
    unfold convert
    simp [run_underlying (und_eq hs), run_underlying (und_eq hd)]
  · cases h
theorem split_ex {α : Type} {Q : α → Prop} {e : E} {f : Nat → T α} : ∀ {k lo : Nat} {g : G}, Gok ρ g → (lo : Int) ≤ e.val ρ → e.val ρ ≤ (lo + k : Nat) → (splitE g e f k lo).all ρ Q → ∃ j : Nat, e.val ρ = (j : Int) ∧ j ≤ lo + k ∧ (f j).all ρ Q
  | 0, lo, g, hg, h1, h2, h => ⟨lo, by omega, by omega, h⟩
  | k + 1, lo, g, hg, h1, h2, h => by
    obtain ⟨ht, he⟩ := brG_all hg h
    by_cases hq : e.val ρ = (lo : Int)
    · obtain ⟨g', _, _, h3⟩ := ht (decide_eq_true hq)
      exact ⟨lo, hq, by omega, h3⟩
    · obtain ⟨g', hg', _, h3⟩ := he (decide_eq_false hq)
      obtain ⟨j, j1, j2, j3⟩ := split_ex hg' (by omega) (by omega) h3
      exact ⟨j, j1, by omega, j3⟩
theorem ixT_ex {α : Type} (hg : Gok ρ g) {Q : α → Prop} {i : DN} {k : Nat} {f : Nat → T α} (h : (ixT g i k f).all ρ Q) : ∃ j : Nat, i.val ρ = (j : Int) ∧ j < k ∧ (f j).all ρ Q := by
  unfold ixT at h
  split at h
  · split at h
    · rename_i j
      split at h
      · rename_i hj; exact ⟨j, rfl, by simpa using hj, h⟩
      · cases h
    · cases h
  · rename_i e
    split at h
    · rename_i lo hi hr; (try have hi := ti_info hi)
      split at h
      · rename_i hc
        simp only [Bool.and_eq_true] at hc
        obtain ⟨⟨c1, c2⟩, _⟩ := hc
        have c1 : hi < k := by simpa using c1
        have c2 := Nat.le_of_ble_eq_true c2
        have hh := rng_in hg _ _ hr
        have h1 : Int.ofNat lo ≤ e.val ρ := hh.1
        have h2 : e.val ρ ≤ Int.ofNat hi := hh.2
        obtain ⟨j, j1, j2, j3⟩ := split_ex hg (by exact h1) (by rw [show lo + (hi - lo) = hi by omega]; exact h2) h
        exact ⟨j, j1, by omega, j3⟩
      · cases h
    · cases h
theorem field_run {t : TypeId} {f : Nat} {fd : Field} (h : fieldOf P t f = some fd) : ∃ fs, P.underlying t = some (.struct fs) ∧ fs[f]? = some fd := by
  unfold fieldOf at h
  split at h
  · rename_i fs hu; (try have hu := und_eq hu)
    rw [nth_eq] at h
    exact ⟨fs, hu, by simpa using h⟩
  · cases h

theorem boundV_ex {x : Option V} {d top : Nat} {f : Nat → T R} {K : R → Prop} (h : (boundV x d top f).all ρ K) : ∃ i : Nat, (f i).all ρ K ∧ ((x = none ∧ i = d) ∨ (∃ k, x = some (.int k (.s (i : Int))) ∧ i ≤ top)) := by
  unfold boundV at h
  split at h
  · exact ⟨d, h, .inl ⟨rfl, rfl⟩⟩
  · rename_i k i
    split at h
    · rename_i hi; (try have hi := ti_info hi); exact ⟨i, h, .inr ⟨k, rfl, Nat.le_of_ble_eq_true hi⟩⟩
    · cases h
  · cases h

theorem bound_run {σ : List (Nat × Nat)} {k : IntKind} {i : Nat} {y : Value} (h : den ρ σ (.int k (.s (i : Int))) = some y) {top : Nat} (hi : i ≤ top) (c : BoundsCode) (w : World) : (Instr.sliceBound y top c).run P w = .ok i w := by
  cases (den_int h)
  have : (0 : Int) ≤ (i : Int) ∧ (i : Int) ≤ (top : Int) := by omega
  simp only [Instr.sliceBound, asIntOf, Sem.run_bind, Sem.run_pure, Result.andThen_ok, DN.val, this, if_true, and_self]
  rfl
theorem bounds_run {isS : Bool} {len cap : Nat} {lo hi : Option V} {lo' hi' : Option Value} {l h d : Nat} (hd : d = len) (hlo : lo = none ∧ lo' = none ∨ ∃ x y, lo = some x ∧ lo' = some y ∧ den ρ σ x = some y) (hhi : hi = none ∧ hi' = none ∨ ∃ x y, hi = some x ∧ hi' = some y ∧ den ρ σ x = some y)
    {top : Nat} (htop : top ≤ cap) (h1 : (hi = none ∧ h = d) ∨ (∃ k, hi = some (.int k (.s (h : Int))) ∧ h ≤ top)) (h2 : (lo = none ∧ l = 0) ∨ (∃ k, lo = some (.int k (.s (l : Int))) ∧ l ≤ h)) (w : World) :
    (Instr.sliceBounds isS len cap lo' hi' none).run P w = .ok (l, h, cap) w := by
  subst hd
  rcases hlo with ⟨rfl, rfl⟩ | ⟨x, y, rfl, rfl, hx⟩ <;> rcases hhi with ⟨rfl, rfl⟩ | ⟨x', y', rfl, rfl, hx'⟩
  · rcases h1 with ⟨_, rfl⟩ | ⟨k, hk, _⟩
    · rcases h2 with ⟨_, rfl⟩ | ⟨k, hk, _⟩
      · simp [Instr.sliceBounds]
      · cases hk
    · cases hk
  · rcases h1 with ⟨hk, _⟩ | ⟨k, hk, hle⟩
    · cases hk
    · rcases h2 with ⟨_, rfl⟩ | ⟨k, hk, _⟩
      · simp only [Option.some.injEq] at hk; subst hk
        simp [Instr.sliceBounds, bound_run hx' (show h ≤ cap by omega)]
      · cases hk
  · rcases h1 with ⟨_, rfl⟩ | ⟨k, hk, _⟩
    · rcases h2 with ⟨hk, _⟩ | ⟨k, hk, hle⟩
      · cases hk
      · simp only [Option.some.injEq] at hk; subst hk
        simp [Instr.sliceBounds, bound_run hx hle]
    · cases hk
  · rcases h1 with ⟨hk, _⟩ | ⟨k, hk, hle⟩
    · cases hk
    · rcases h2 with ⟨hk2, _⟩ | ⟨k2, hk2, hle2⟩
      · cases hk2
      · simp only [Option.some.injEq] at hk hk2; subst hk; subst hk2
        simp [Instr.sliceBounds, bound_run hx' (show h ≤ cap by omega), bound_run hx hle2]

theorem sliceV_run {t : TypeId} {x : V} {lo hi : Option V} {lo' hi' : Option Value} {y : Value} (h : (sliceV P t x lo hi).all ρ K) (hx : den ρ σ x = some y) (hlo : lo = none ∧ lo' = none ∨ ∃ x y, lo = some x ∧ lo' = some y ∧ den ρ σ x = some y) (hhi : hi = none ∧ hi' = none ∨ ∃ x y, hi = some x ∧ hi' = some y ∧ den ρ σ x = some y) :
    ∃ v, K (.v v) ∧ ∃ z, den ρ σ v = some z ∧ ∀ w, (Instr.sliceAt t y lo' hi' none).run P w = .ok z w := by
  unfold sliceV at h
  split at h
  · rename_i e hu; (try have hu := und_eq hu)
    split at h
    · cases h
    · rename_i z hz
      split at h
      · rename_i b o l c
        obtain ⟨hh, hh1, hh2⟩ := boundV_ex h
        obtain ⟨i, hi1, hi2⟩ := boundV_ex hh1
        obtain ⟨y', hy, rfl⟩ := den_slice hx
        refine ⟨_, hi1, .slice (some (if c = i then ⟨y'.1, o, none⟩ else ⟨y'.1, o + i * z, none⟩)) (hh - i) (c - i), ?_, fun w => ?_⟩
        · simp only [den, hy, Cp.den]
          cases hb : Nat.beq c i with
          | true => rw [if_pos (Nat.eq_of_beq_eq_true hb)]
          | false => rw [if_neg (fun e => by subst e; simp at hb)]
        · unfold Instr.sliceAt
          simp only [Sem.run_bind, run_underlying hu, Result.andThen_ok]
          unfold Instr.slice
          simp only [Sem.run_bind, run_underlying hu, Result.andThen_ok, Cp.den, bounds_run (P := P) (isS := true) rfl hlo hhi (Nat.le_refl c) hh2 hi2 w, size_run hz w, Sem.run_pure, Option.map_some, addr_add]
          split <;> rfl
      · obtain ⟨hh, hh1, hh2⟩ := boundV_ex h
        obtain ⟨i, hi1, hi2⟩ := boundV_ex hh1
        simp only [den, Option.some.injEq] at hx
        subst hx
        have hh0 : hh = 0 := by rcases hh2 with ⟨_, e⟩ | ⟨_, _, e⟩ <;> omega
        subst hh0
        have hi0 : i = 0 := by rcases hi2 with ⟨_, e⟩ | ⟨_, _, e⟩ <;> omega
        subst hi0
        refine ⟨_, hi1, .slice none 0 0, rfl, fun w => ?_⟩
        unfold Instr.sliceAt
        simp only [Sem.run_bind, run_underlying hu, Result.andThen_ok]
        unfold Instr.slice
        simp only [Sem.run_bind, run_underlying hu, Result.andThen_ok, bounds_run (P := P) (isS := true) rfl hlo hhi (Nat.le_refl 0) hh2 hi2 w, size_run hz w, Sem.run_pure, Option.map_none]
        rfl
      · cases h
  · rename_i k e hu; (try have hu := und_eq hu)
    split at h
    · rename_i z b o hz
      obtain ⟨hh, hh1, hh2⟩ := boundV_ex h
      obtain ⟨i, hi1, hi2⟩ := boundV_ex hh1
      obtain ⟨y', hy, rfl⟩ := den_ptr hx
      refine ⟨_, hi1, .slice (some (if k = i then ⟨y'.1, o, none⟩ else ⟨y'.1, o + i * z, none⟩)) (hh - i) (k - i), ?_, fun w => ?_⟩
      · simp only [den, hy, Cp.den]
        cases hb : Nat.beq k i with
        | true => rw [if_pos (Nat.eq_of_beq_eq_true hb)]
        | false => rw [if_neg (fun e => by subst e; simp at hb)]
      · unfold Instr.sliceAt
        simp only [Sem.run_bind, run_underlying hu, Result.andThen_ok, Instr.sureAddr, Sem.run_pure, bounds_run (P := P) (isS := false) rfl hlo hhi (Nat.le_refl k) hh2 hi2 w, size_run hz w, addr_add]
    · cases h
  · cases h
end
end Go.Proofs.Ythndnammnnallaa.Sy
