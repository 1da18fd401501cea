/- The evaluator over memory known by name: numbers of one part that is between bounds: each is tried. -/
import Derived.Test.YtnjenhdfeeonoaaGreatDoorMemH
namespace Go.Proofs.YtnjenhdfeeonoaaGreatDoor.Sy
open Go.RowKit

/-- what a number is where a part of it is n -/
noncomputable def E.at (t : E) (n : Int) : E → Option Int
  | .v i => match t.beq (.v i) with
    | true => some n
    | false => none
  | .c m => some m
  | .bin o k a b => match t.beq (.bin o k a b) with
    | true => some n
    | false => match E.at t n a with
      | some x => match E.at t n b with
        | some y => forceI (o.val k x y) some
        | none => none
      | none => none
  | .wrap k a => match t.beq (.wrap k a) with
    | true => some n
    | false => match E.at t n a with
      | some x => forceI (k.wrap x) some
      | none => none
  | .ld k a i => match t.beq (.ld k a i) with
    | true => some n
    | false => none
def eqOI (x y : Option Int) : Bool := match x with
  | none => false
  | some x => match y with
    | none => false
    | some y => eqI x y
noncomputable def enumN (t a b : E) : Nat → Int → Bool
  | 0, lo => eqOI (E.at t lo a) (E.at t lo b)
  | k + 1, lo => eqOI (E.at t lo a) (E.at t lo b) && forceI (lo + 1) fun lo => enumN t a b k lo
noncomputable def enumEq (g : G) (t a b : E) : Bool := match rng g t with
  | some (lo, hi) => match hi - lo with
    | .ofNat k => Nat.ble k 5000 && enumN t a b k lo
    | .negSucc _ => false
  | none => false
mutual
/-- the same value, numbers tried -/
noncomputable def vsame (g : G) (t : E) : V → V → Bool
  | .int j a, v => (match v with
    | .int k b => Nat.beq (kindNo j) (kindNo k) && (a.beq b || enumEq g t a.e b.e)
    | _ => false)
  | .agg l, v => (match v with
    | .agg k => vsames g t l k
    | _ => false)
  | .tup l, v => (match v with
    | .tup k => vsames g t l k
    | _ => false)
  | .bool a, v => (match v with
    | .bool b => a.beq b
    | _ => false)
  | _, _ => false
noncomputable def vsames (g : G) (t : E) : List V → List V → Bool
  | [], l => (match l with
    | [] => true
    | _ => false)
  | x :: xs, l => (match l with
    | y :: ys => vsame g t x y && vsames g t xs ys
    | [] => false)
end
noncomputable def isRetS (g : G) (t : E) (v : V) : Fin × Mem → Bool
  | (.ret u, _) => vsame g t v u
  | (.pan _, _) => false
section
variable {P : Program} {ρ : Nat → Int} {σ : List (Nat × Nat)} {g : G}
theorem E.at_ok {t : E} : ∀ (e : E) (x : Int), E.at t (t.val ρ) e = some x → e.val ρ = x
  | .v i, x, h => by
    simp only [E.at] at h
    split at h
    · rename_i hb; rw [← E.beq_eq _ _ hb]; exact Option.some.inj h
    · cases h
  | .c m, x, h => by
    simp only [E.at, Option.some.injEq] at h
    exact h
  | .bin o k a b, x, h => by
    simp only [E.at] at h
    split at h
    · rename_i hb; rw [← E.beq_eq _ _ hb]; exact Option.some.inj h
    · split at h
      · rename_i y hy
        split at h
        · rename_i z hz
          rw [forceI_eq] at h
          have e1 := E.at_ok a y hy
          have e2 := E.at_ok b z hz
          simp only [E.val, e1, e2]
          exact Option.some.inj h
        · cases h
      · cases h
  | .wrap k a, x, h => by
    simp only [E.at] at h
    split at h
    · rename_i hb; rw [← E.beq_eq _ _ hb]; exact Option.some.inj h
    · split at h
      · rename_i y hy
        rw [forceI_eq] at h
        have e1 := E.at_ok a y hy
        simp only [E.val, e1]
        exact Option.some.inj h
      · cases h
  | .ld k a i, x, h => by
    simp only [E.at] at h
    split at h
    · rename_i hb; rw [← E.beq_eq _ _ hb]; exact Option.some.inj h
    · cases h
theorem enumN_ok {t a b : E} : ∀ (k : Nat) (lo : Int), enumN t a b k lo = true → lo ≤ t.val ρ → t.val ρ ≤ lo + k → a.val ρ = b.val ρ := by
  have one : ∀ lo, eqOI (E.at t lo a) (E.at t lo b) = true → t.val ρ = lo → a.val ρ = b.val ρ := by
    intro lo h e
    subst e
    unfold eqOI at h
    split at h
    · cases h
    · rename_i x hx
      split at h
      · cases h
      · rename_i y hy
        rw [eqI_eq] at h
        rw [E.at_ok a x hx, E.at_ok b y hy]
        exact of_decide_eq_true h
  intro k
  induction k with
  | zero => intro lo h h1 h2; exact one lo h (by omega)
  | succ k ih =>
    intro lo h h1 h2
    simp only [enumN, Bool.and_eq_true, forceI_eq] at h
    by_cases e : t.val ρ = lo
    · exact one lo h.1 e
    · exact ih (lo + 1) h.2 (by omega) (by omega)
theorem enumEq_ok (hg : Gok ρ g) {t a b : E} (h : enumEq g t a b = true) : a.val ρ = b.val ρ := by
  unfold enumEq at h
  split at h
  · rename_i lo hi hr
    have hin := rng_in hg _ _ hr
    have r1 : lo ≤ t.val ρ := hin.1
    have r2 : t.val ρ ≤ hi := hin.2
    split at h
    · rename_i k hk
      simp only [Bool.and_eq_true] at h
      have hk : hi - lo = (k : Int) := hk
      exact enumN_ok k lo h.2 r1 (by omega)
    · cases h
  · cases h
mutual
theorem vsame_ok (hg : Gok ρ g) {t : E} : ∀ (v u : V) (x : Value), vsame g t v u = true → den ρ σ u = some x → den ρ σ v = some x
  | .int j a, u, x, h, hx => by
    cases u <;> simp only [vsame] at h <;> try (cases h; done)
    rename_i k b
    simp only [Bool.and_eq_true, Bool.or_eq_true] at h
    have hk := kindNo_inj h.1
    subst hk
    simp only [den] at hx ⊢
    rcases h.2 with h2 | h2
    · rw [dn_beq h2]; exact hx
    · have := enumEq_ok hg h2
      rw [DN.e_val, DN.e_val] at this
      rw [this]; exact hx
  | .agg l, u, x, h, hx => by
    cases u <;> simp only [vsame] at h <;> try (cases h; done)
    rename_i k
    simp only [den] at hx
    cases hv : denL ρ σ k with
    | none => rw [hv] at hx; cases hx
    | some y =>
      rw [hv] at hx
      have := vsames_ok hg l k y h hv
      simp only [den, this]
      exact hx
  | .tup l, u, x, h, hx => by
    cases u <;> simp only [vsame] at h <;> try (cases h; done)
    rename_i k
    simp only [den] at hx
    cases hv : denL ρ σ k with
    | none => rw [hv] at hx; cases hx
    | some y =>
      rw [hv] at hx
      have := vsames_ok hg l k y h hv
      simp only [den, this]
      exact hx
  | .bool a, u, x, h, hx => by
    cases u <;> simp only [vsame] at h <;> try (cases h; done)
    rw [db_beq h]; exact hx
  | .str _, u, x, h, hx | .nilp, u, x, h, hx | .ptr _ _, u, x, h, hx | .nils, u, x, h, hx | .slice _ _ _ _, u, x, h, hx | .sl _ _ _, u, x, h, hx | .pel _ _ _ _ _, u, x, h, hx | .nilm, u, x, h, hx | .map _, u, x, h, hx | .nilf, u, x, h, hx | .func _ _ _, u, x, h, hx | .nili, u, x, h, hx | .iface _ _, u, x, h, hx => by simp [vsame] at h
theorem vsames_ok (hg : Gok ρ g) {t : E} : ∀ (v u : List V) (x : List Value), vsames g t v u = true → denL ρ σ u = some x → denL ρ σ v = some x
  | [], u, x, h, hx => by
    cases u <;> simp only [vsames] at h <;> try (cases h; done)
    exact hx
  | a :: l, u, x, h, hx => by
    cases u <;> simp only [vsames] at h <;> try (cases h; done)
    rename_i b k
    simp only [Bool.and_eq_true] at h
    obtain ⟨y, z, h1, h2, rfl⟩ := denL_cons_eq hx
    exact denL_cons (vsame_ok hg a b y h.1 h1) (vsames_ok hg l k z h.2 h2)
end
/-- an entry that a run shows, numbers tried -/
theorem he_run0S {ng : Nat} {gl : List (Nat × IntKind × List Int)} (hm : P.follows .mixedOrders = true) (k : Nat) (t : E) {f : FuncId} {args : List V} {v : V} {vs : List (Int × Int)} {pc : List (B × Bool)} (hg : Gok ρ ⟨vs, pc, [], 0⟩) (hv0 : vbels 0 args = true) (hpl : plainV v = true)
    (h : (xcall P k ⟨vs, pc, [], 0⟩ f args mem0).allB (isRetS ⟨vs, pc, [], 0⟩ t v) = true) : EntryOk P ng gl ρ ⟨f, false, args, v⟩ := by
  obtain ⟨x, hx⟩ := plain_den ρ v hpl
  refine ⟨hv0, x, hx, fun xs hxs w _ => ?_⟩
  refine (all_ok hm k).1 _ f args mem0 xs [] w [] w _ hg (globs0 _) (RM.none ρ w) hxs (T.all_mono ?_ (T.all_of_allB h))
  rintro ⟨e, m⟩ he τ w' hM
  cases e with
  | pan u => cases he
  | ret u =>
    intro y hy
    have h1 := vsame_ok (σ := [] ++ τ) hg v u y he hy
    have h2 := den_pre ρ [] ([] ++ τ) _ _ hx
    rw [List.nil_append] at h2
    rw [h1] at h2
    cases h2
    exact ⟨rfl, hM.fr⟩
/-- an entry by other variables -/
theorem entry_to {ng : Nat} {gl : List (Nat × IntKind × List Int)} {ρ1 : Nat → Int} {f : FuncId} {asks : Bool} {args1 args2 : List V} {v1 v2 : V} (hv : vbels 0 args2 = true) (ha : denL ρ1 [] args1 = denL ρ [] args2) (hd : den ρ1 [] v1 = den ρ [] v2) (h : EntryOk P ng gl ρ1 ⟨f, asks, args1, v1⟩) : EntryOk P ng gl ρ ⟨f, asks, args2, v2⟩ := by
  obtain ⟨_, x, hx, hcall⟩ := h
  exact ⟨hv, x, by rw [← hd]; exact hx, fun xs hxs w hW => hcall xs (by rw [ha]; exact hxs) w hW⟩
/-- a hook asked where the first variables lie between these bounds -/
noncomputable def preVs : List (Int × Int) → List (Int × Int) → Bool
  | [], _ => true
  | (lo, hi) :: l, vs => (match vs with
    | (lo', hi') :: k => eqI lo lo' && eqI hi hi' && preVs l k
    | [] => false)
noncomputable def withVs (vs : List (Int × Int)) (H : Hook) : Hook := fun g f args m => match preVs vs g.vs with
  | true => H g f args m
  | false => none
theorem preVs_get : ∀ {l k : List (Int × Int)} {i : Nat} {r : Int × Int}, preVs l k = true → nthI l i = some r → nthI k i = some r
  | [], _, _, _, _, h => by cases h
  | (lo, hi) :: l, [], _, _, h, _ => by simp [preVs] at h
  | (lo, hi) :: l, (lo', hi') :: k, 0, r, h, hi0 => by
    simp only [preVs, Bool.and_eq_true, eqI_eq, decide_eq_true_eq] at h
    have hi0 : some (lo, hi) = some r := hi0
    cases hi0
    show some (lo', hi') = some (lo, hi)
    rw [h.1.1, h.1.2]
  | (lo, hi) :: l, (lo', hi') :: k, i + 1, r, h, hi0 => by
    simp only [preVs, Bool.and_eq_true] at h
    exact preVs_get (l := l) (k := k) h.2 hi0
theorem withVs_ok {vs : List (Int × Int)} {H : Hook} (h : ∀ ρ, Gok ρ ⟨vs, [], [], 0⟩ → HookOk P H ρ) (ρ : Nat → Int) : HookOk P (withVs vs H) ρ := by
  intro g f args m t xs S w0 σ w R hh hg hgl hM ha hall
  unfold withVs at hh
  split at hh
  · rename_i hp
    refine h ρ ⟨fun i lo hi hi' => hg.vs i lo hi (preVs_get hp hi'), fun b t hm => by cases hm⟩ g f args m t xs S w0 σ w R hh hg hgl hM ha hall
  · cases hh
/-- a further variable whose bounds are tests -/
theorem gok_v1 {lo hi a b : Int} {pc : List (B × Bool)} {n n' : Nat} (h : Gok ρ ⟨[(lo, hi)], [], [], n⟩) (hp : ∀ b t, (b, t) ∈ pc → b.val ρ = t) (h1 : (B.lt (.v 1) (.c a)).val ρ = false) (h2 : (B.lt (.c b) (.v 1)).val ρ = false) : Gok ρ ⟨[(lo, hi), (a, b)], pc, [], n'⟩ := by
  refine ⟨fun i x y hi' => ?_, hp⟩
  match i, hi' with
  | 0, hi' => exact h.vs 0 x y hi'
  | 1, hi' =>
    have hi' : some (a, b) = some (x, y) := hi'
    cases hi'
    have e1 : ¬ ρ 1 < a := of_decide_eq_false h1
    have e2 : ¬ b < ρ 1 := of_decide_eq_false h2
    exact ⟨by omega, by omega⟩
  | i + 2, hi' => cases hi'
end
end Go.Proofs.YtnjenhdfeeonoaaGreatDoor.Sy
