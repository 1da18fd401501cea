/- The evaluator over memory known by name: arguments that are integers, bools, and one slice of numbers that is read. -/
import Derived.Test.YtkljleenmmeneaaGreatDoorQuiet
namespace Go.Proofs.YtkljleenmmeneaaGreatDoor.Sy
open Go.RowKit

/-- the law holds of arguments of which these tests hold -/
def HoldsL (P : Program) (ng : Nat) (gl : List (Nat × IntKind × List Int)) (f : FuncId) (ks : List Ck) (wi : Nat) (cols : List (IntKind × Nat)) (nil : Bool) (pc : List (B × Bool)) : Prop :=
  ∀ xs : List Int, inAll xs (ckB ks) → ∀ (b off cap : Nat) (ws : Nat → Nat → Int) (w : World), (nil = false → RowAt w b off (xs.getD wi 0).toNat cols ws) → (∀ q t, (q, t) ∈ pc → q.val (rowρ xs off ws) = t) → GlobsAre w ng gl →
    Calls P f (ckVal nil b off cap ks xs).toArray w fun e w' => e = .returned (.bool true) ∧ Below w.heap.size w w'
theorem holdsL_run {P : Program} (hm : P.follows .mixedOrders = true) (H : Hook) (hH : ∀ ρ, HookOk P H ρ) (k d ng : Nat) (gl : List (Nat × IntKind × List Int)) {f : FuncId} {ks : List Ck} {wi : Nat} {cols : List (IntKind × Nat)} {nil : Bool} {pc : List (B × Bool)} (specs : FuncId → Option (Nat → Option LS))
    (hn : (Nat.ble (ckB ks).length 1000 && Nat.blt wi 1000 && colsLt cols) = true)
    (h : topCall P H k d specs ⟨ckB ks, pc, [], ng⟩ f (ckV nil ng 1063 ks 0) (rowM nil gl ng wi cols) = true) : HoldsL P ng gl f ks wi cols nil pc := by
  intro xs hx b off cap ws w hR hpc hW
  simp only [Bool.and_eq_true] at hn
  obtain ⟨⟨hn, hw⟩, hcl⟩ := hn
  have hn := Nat.le_of_ble_eq_true hn
  have hw : wi < 1000 := by simpa using hw
  have hlx := inAll_len hx
  have hlt : ∀ i, i < xs.length → rowρ xs off ws i = xs.getD i 0 := fun i hi => rowρ_lt (by omega)
  have hg : Gok (rowρ xs off ws) ⟨ckB ks, pc, [], ng⟩ := by
    refine ⟨fun i lo hi hi' => ?_, hpc⟩
    have := (gok_of hx ng).vs i lo hi hi'
    have hi2 : i < xs.length := by rw [hlx]; exact nthI_lt hi'
    rw [hlt i hi2]
    exact this
  have hs : (sigG ng ++ [(b, cap)])[ng]? = some (b, cap) := by
    have : (sigG ng).length = ng := by simp [sigG]
    rw [List.getElem?_append_right (by omega), this]; simp
  have h1 := den_ckρ (nil := nil) (ρ := rowρ xs off ws) hs rowρ_off ks xs 0 hlx (fun j hj => by
    rw [Nat.zero_add, hlt j hj])
  refine topCall_ok hm hH h hg (fun i hi => ⟨0, get_pre (sigG_get hi)⟩) (σ := sigG ng ++ [(b, cap)]) ?_ h1
  cases nil with
  | true => exact RM.globs1 _ hW (b, cap)
  | false =>
    refine RM.row _ hW ?_
    obtain ⟨cur, t, fr, h3, h4⟩ := hR rfl
    refine ⟨cur, t, fr, h3, fun i j kd a hi hj => ?_⟩
    simp only [E.val] at hi ⊢
    rw [rowρ_off, Int.toNat_natCast, rowρ_at (colsLt_get hcl hj)]
    refine h4 i j kd a ?_ hj
    rw [rowρ_lt hw] at hi
    exact hi
/-- .. by one run -/
theorem holdsL_runX {P : Program} (hm : P.follows .mixedOrders = true) (k ng : Nat) (gl : List (Nat × IntKind × List Int)) {tab : List HE} {f : FuncId} {ks : List Ck} {wi : Nat} {cols : List (IntKind × Nat)} {nil : Bool} {pc : List (B × Bool)} (ht : ∀ ρ, Gok ρ ⟨ckB ks, pc, [], ng⟩ → ∀ h ∈ tab, EntryOk P ng gl ρ h)
    (hn : (Nat.ble (ckB ks).length 1000 && Nat.blt wi 1000 && colsLt cols) = true)
    (h : (xcallH P (hookN ng gl tab) k ⟨ckB ks, pc, [], ng⟩ f (ckV nil ng 1063 ks 0) (rowM nil gl ng wi cols)).allB isTrue = true) : HoldsL P ng gl f ks wi cols nil pc := by
  intro xs hx b off cap ws w hR hpc hW
  simp only [Bool.and_eq_true] at hn
  obtain ⟨⟨hn, hw⟩, hcl⟩ := hn
  have hn := Nat.le_of_ble_eq_true hn
  have hw : wi < 1000 := by simpa using hw
  have hlx := inAll_len hx
  have hlt : ∀ i, i < xs.length → rowρ xs off ws i = xs.getD i 0 := fun i hi => rowρ_lt (by omega)
  have hg : Gok (rowρ xs off ws) ⟨ckB ks, pc, [], ng⟩ := by
    refine ⟨fun i lo hi hi' => ?_, hpc⟩
    have := (gok_of hx ng).vs i lo hi hi'
    have hi2 : i < xs.length := by rw [hlx]; exact nthI_lt hi'
    rw [hlt i hi2]
    exact this
  have hs : (sigG ng ++ [(b, cap)])[ng]? = some (b, cap) := by
    have : (sigG ng).length = ng := by simp [sigG]
    rw [List.getElem?_append_right (by omega), this]; simp
  have h1 := den_ckρ (nil := nil) (ρ := rowρ xs off ws) hs rowρ_off ks xs 0 hlx (fun j hj => by
    rw [Nat.zero_add, hlt j hj])
  refine (all_okH hm (hookN_ok (ht _ hg)) k).1 _ f _ _ (ckVal nil b off cap ks xs) [] w (sigG ng ++ [(b, cap)]) w _ hg (fun i hi => ⟨0, get_pre (sigG_get hi)⟩) ?_ h1 (T.all_mono ?_ (T.all_of_allB h))
  · cases nil with
    | true => exact RM.globs1 _ hW (b, cap)
    | false =>
      refine RM.row _ hW ?_
      obtain ⟨cur, t, fr, h3, h4⟩ := hR rfl
      refine ⟨cur, t, fr, h3, fun i j kd a hi hj => ?_⟩
      simp only [E.val] at hi ⊢
      rw [rowρ_off, Int.toNat_natCast, rowρ_at (colsLt_get hcl hj)]
      refine h4 i j kd a ?_ hj
      rw [rowρ_lt hw] at hi
      exact hi
  · rintro ⟨e, m⟩ he τ w' hM
    cases e with
    | pan v => cases he
    | ret v =>
      cases v with
      | bool b =>
        cases b with
        | s b =>
          intro x hx
          cases (den_bool hx)
          simp only [isTrue] at he
          subst he
          exact ⟨rfl, hM.fr.below⟩
        | d b => cases he
      | _ => cases he
theorem holdsL_split {P : Program} {ng : Nat} {gl : List (Nat × IntKind × List Int)} {f : FuncId} {ks : List Ck} {wi : Nat} {cols : List (IntKind × Nat)} {nil : Bool} {pc : List (B × Bool)} (b : B) (h1 : HoldsL P ng gl f ks wi cols nil ((b, true) :: pc)) (h2 : HoldsL P ng gl f ks wi cols nil ((b, false) :: pc)) : HoldsL P ng gl f ks wi cols nil pc := by
  intro xs hx bl off cap ws w hR hpc
  cases hb : b.val (rowρ xs off ws) with
  | true => exact h1 xs hx bl off cap ws w hR (fun b' t' hm => by rcases List.mem_cons.1 hm with e | hm; cases e; exact hb; exact hpc b' t' hm)
  | false => exact h2 xs hx bl off cap ws w hR (fun b' t' hm => by rcases List.mem_cons.1 hm with e | hm; cases e; exact hb; exact hpc b' t' hm)
theorem calls_holdsL {P : Program} {ng : Nat} {gl : List (Nat × IntKind × List Int)} {f : FuncId} {ks : List Ck} {wi : Nat} {cols : List (IntKind × Nat)} {cs : List Value} (hn : ckSlices ks = 1) (hk : ks[wi]? = some .s) (hc : FitsCk ks cs) (h : ∀ nil, HoldsL P ng gl f ks wi cols nil []) (w : World)
    (hrow : ∀ b off n cap, cs[wi]? = some (.slice (some ⟨b, off, none⟩) n cap) → ∃ ws, RowAt w b off n cols ws) (hW : GlobsAre w ng gl) :
    Calls P f cs.toArray w fun e w' => e = .returned (.bool true) ∧ Below w.heap.size w w' := by
  obtain ⟨nil, b, off, cap, xs, hx, rfl⟩ := fit_one ks cs hn hc
  have hlx := inAll_len hx
  cases nil with
  | true => exact h true xs hx b off cap (fun _ _ => 0) w (fun h => by cases h) (fun q t hm => by cases hm) hW
  | false =>
    have hg := ckVal_get (b := b) (off := off) (cap := cap) ks xs wi hlx hk
    obtain ⟨ws, hr⟩ := hrow b off _ cap hg
    exact h false xs hx b off cap ws w (fun _ => hr) (fun q t hm => by cases hm) hW
theorem okc {P : Program} {w : World} {r : Reach} {base : Nat} {t e : TypeId} {v : Value} (hu : P.underlying t = some (.slice e)) (h : Value.okWide P w r base t v) : Cell.okWide P w r base t v := by
  unfold Value.okWide at h
  rw [hu] at h
  exact h
theorem sl_fits {P : Program} {w : World} {r : Reach} {base : Nat} {t e : TypeId} {v : Value} (hu : P.underlying t = some (.slice e)) (h : Value.okWide P w r base t v) : Ck.Fits .s v :=
  ck_of_ok (k := .s) (by unfold ckOf; rw [hu]) (okc hu h)
theorem sl_shape {P : Program} {w : World} {r : Reach} {base : Nat} {t e : TypeId} {b off n cap : Nat} (hu : P.underlying t = some (.slice e)) (h : Value.okWide P w r base t (.slice (some ⟨b, off, none⟩) n cap)) : ∃ cur t fr, w.heap[b]? = some (.cells cur t fr) := by
  have ho := okc hu h
  unfold Cell.okWide Cell.ok at ho
  simp only [hu] at ho
  obtain ⟨_, _, _, _, row, cells, h2, _⟩ := ho
  unfold World.shape? at h2
  split at h2
  · rename_i c el fr hh
    exact ⟨c, el, fr, hh⟩
  · cases h2
end Go.Proofs.YtkljleenmmeneaaGreatDoor.Sy
