/- The evaluator over memory known by name: an argument that is a struct of integers, bools, and one slice of numbers; behind it integers; loops by what is said of them. -/
import Derived.Test.YtkljleenmmeneaaGreatDoorTopB
import Derived.Deep.Slices
import Derived.ChangeArms
namespace Go.Proofs.YtkljleenmmeneaaGreatDoor.Sy
open Go.RowKit

/-- the variables: numbers; where a row stands; a row's numbers -/
def rowρ (xs : List Int) (off : Nat) (ws : Nat → Nat → Int) : Nat → Int := fun i => if i < 1000 then xs.getD i 0 else if i = 1063 then (off : Int) else ws ((i - 1000) % 64) ((i - 1000) / 64)
/-- what a row holds -/
def RowAt (w : World) (b off n : Nat) (cols : List (IntKind × Nat)) (ws : Nat → Nat → Int) : Prop :=
  ∃ cur t fr, w.heap[b]? = some (.cells cur t fr) ∧ ∀ i j kd a, i < n → cols[j]? = some (kd, a) → cur[off + i * cols.length + j]? = some (.int kd (kd.wrap (ws a i)))
theorem rowρ_lt {xs : List Int} {off : Nat} {ws : Nat → Nat → Int} {i : Nat} (h : i < 1000) : rowρ xs off ws i = xs.getD i 0 := by unfold rowρ; rw [if_pos h]
theorem rowρ_off {xs : List Int} {off : Nat} {ws : Nat → Nat → Int} : rowρ xs off ws 1063 = off := by unfold rowρ; rw [if_neg (by omega), if_pos rfl]
theorem rowρ_at {xs : List Int} {off : Nat} {ws : Nat → Nat → Int} {a i : Nat} (h : a < 63) : rowρ xs off ws (arrIdx a i) = ws a i := by
  unfold rowρ arrIdx
  rw [if_neg (by omega), if_neg (by omega), show (1000 + a + 64 * i - 1000) % 64 = a by omega, show (1000 + a + 64 * i - 1000) / 64 = i by omega]
def colsLt : List (IntKind × Nat) → Bool
  | [] => true
  | (_, a) :: l => Nat.blt a 63 && colsLt l
theorem colsLt_get : ∀ {l : List (IntKind × Nat)} {j : Nat} {k : IntKind} {a : Nat}, colsLt l = true → l[j]? = some (k, a) → a < 63
  | [], j, k, a, _, h => by simp at h
  | x :: l, 0, k, a, h, hj => by
    simp only [List.getElem?_cons_zero, Option.some.injEq] at hj
    subst hj
    simp only [colsLt, Bool.and_eq_true] at h
    simpa using h.1
  | x :: l, j + 1, k, a, h, hj => by
    obtain ⟨k', a'⟩ := x
    simp only [colsLt, Bool.and_eq_true] at h
    exact colsLt_get h.2 (by simpa using hj)
noncomputable def rowM (nil : Bool) (gl : List (Nat × IntKind × List Int)) (ng wi : Nat) (cols : List (IntKind × Nat)) : Mem := match nil with
  | true => ⟨gTab gl, ng + 1, ng + 1⟩
  | false => ⟨(gTab gl).set ng (.arr (.v 1063) (.v wi) cols), ng + 1, ng + 1⟩
theorem RM.row (ρ : Nat → Int) {w : World} {ng : Nat} {l : List (Nat × IntKind × List Int)} (h : GlobsAre w ng l) {b c : Nat} {o n : E} {cols : List (IntKind × Nat)} (hr : holds ρ [] w b c (.arr o n cols)) :
    RM ρ [] w (sigG ng ++ [(b, c)]) ⟨(gTab l).set ng (.arr o n cols), ng + 1, ng + 1⟩ w := by
  have h0 := RM.globs ρ h
  have hng : (sigG ng).length = ng := by simp [sigG]
  refine ⟨Fr.refl [] w, by simp [sigG], ?_, ?_, ?_⟩
  · intro n' k hk
    rcases PT.get_set _ _ _ _ _ hk with ⟨rfl, rfl⟩ | ⟨_, hk⟩
    · exact ⟨b, c, by rw [List.getElem?_append_right (by omega), hng]; simp, hr⟩
    · obtain ⟨b', c', h1, h2⟩ := h0.blk n' k hk
      exact ⟨b', c', get_pre h1, holds_pre h2⟩
  · intro n' b c hl hs
    have hl : ng + 1 ≤ n' := hl
    rw [List.getElem?_eq_none (by simp [sigG]; exact hl)] at hs; cases hs
  · intro i j k m hk hm hne h1 h2 hro x z hx hz
    have hk0 := PT.get_set _ _ _ _ _ hk
    clear hk
    have hm0 := PT.get_set _ _ _ _ _ hm
    clear hm
    rcases hk0 with ⟨rfl, rfl⟩ | ⟨_, hk⟩
    · rcases hm0 with ⟨rfl, rfl⟩ | ⟨_, hm⟩
      · exact absurd rfl hne
      · obtain ⟨y, _, _, rfl⟩ := gTab_get l j m hm
        simp [Blk.ro, roT] at hro
    · rcases hm0 with ⟨rfl, rfl⟩ | ⟨_, hm⟩
      · obtain ⟨y, _, _, rfl⟩ := gTab_get l i k hk
        simp [Blk.ro, roT] at hro
      · obtain ⟨b', c', e1, _⟩ := h0.blk i k hk
        obtain ⟨b'', c'', e2, _⟩ := h0.blk j m hm
        rw [get_pre e1] at hx; cases hx
        rw [get_pre e2] at hz; cases hz
        exact h0.inj i j k m hk hm hne h1 h2 hro _ _ e1 e2
/-- the law holds of arguments of which these tests hold -/
def HoldsA (P : Program) (ng : Nat) (gl : List (Nat × IntKind × List Int)) (f : FuncId) (ks : List Ck) (l : List Sh) (wi : Nat) (cols : List (IntKind × Nat)) (nil : Bool) (pc : List (B × Bool)) : Prop :=
  ∀ xs ys : List Int, inAll xs (ckB ks) → inAll ys (shB l) → ∀ (b off cap : Nat) (ws : Nat → Nat → Int) (w : World), (nil = false → RowAt w b off ((xs ++ ys).getD wi 0).toNat cols ws) → (∀ q t, (q, t) ∈ pc → q.val (rowρ (xs ++ ys) off ws) = t) → GlobsAre w ng gl →
    Calls P f (.agg (ckVal nil b off cap ks xs).toArray :: shVals l ys).toArray w fun e w' => e = .returned (.bool true) ∧ Below w.heap.size w w'
theorem den_ckρ {σ : List (Nat × Nat)} {nil : Bool} {nm oi b off cap : Nat} {ρ : Nat → Int} (hs : σ[nm]? = some (b, cap)) (ho : ρ oi = off) : ∀ (ks : List Ck) (xs : List Int) (i : Nat), xs.length = (ckB ks).length → (∀ j, j < xs.length → ρ (i + j) = xs.getD j 0) → denL ρ σ (ckV nil nm oi ks i) = some (ckVal nil b off cap ks xs)
  | [], [], i, _, _ => denL_nil
  | .i k :: r, x :: xs, i, hl, h => by
    have h0 := h 0 (by simp)
    simp only [Nat.add_zero, List.getD_cons_zero] at h0
    refine denL_cons ?_ (den_ckρ hs ho r xs (i + 1) (by simpa [ckB] using hl) (fun j hj => ?_))
    · simp only [den, DN.val, E.val, h0]
    · have := h (j + 1) (by simp; omega)
      rw [show i + 1 + j = i + (j + 1) by omega, this]
      simp
  | .b :: r, x :: xs, i, hl, h => by
    have h0 := h 0 (by simp)
    simp only [Nat.add_zero, List.getD_cons_zero] at h0
    refine denL_cons ?_ (den_ckρ hs ho r xs (i + 1) (by simpa [ckB] using hl) (fun j hj => ?_))
    · simp only [den, DB.val, B.val, E.val, h0]
    · have := h (j + 1) (by simp; omega)
      rw [show i + 1 + j = i + (j + 1) by omega, this]
      simp
  | .s :: r, l :: xs, i, hl, h => by
    have h0 := h 0 (by simp)
    simp only [Nat.add_zero, List.getD_cons_zero] at h0
    refine denL_cons ?_ (den_ckρ hs ho r xs (i + 1) (by simpa [ckB] using hl) (fun j hj => ?_))
    · cases nil with
      | true => simp only [den]
      | false => simp only [den, hs, E.val, h0, ho, Int.toNat_natCast]
    · have := h (j + 1) (by simp; omega)
      rw [show i + 1 + j = i + (j + 1) by omega, this]
      simp
  | [], _ :: _, _, hl, _ => by simp [ckB] at hl
  | .i _ :: _, [], _, hl, _ => by simp [ckB] at hl
  | .b :: _, [], _, hl, _ => by simp [ckB] at hl
  | .s :: _, [], _, hl, _ => by simp [ckB] at hl
theorem holdsA_run {P : Program} (hm : P.follows .mixedOrders = true) (H : Hook) (hH : ∀ ρ, HookOk P H ρ) (k d ng : Nat) (gl : List (Nat × IntKind × List Int)) {f : FuncId} {ks : List Ck} {l : List Sh} {wi : Nat} {cols : List (IntKind × Nat)} {nil : Bool} {pc : List (B × Bool)} (specs : FuncId → Option (Nat → Option LS))
    (hn : (Nat.ble (ckB ks ++ shB l).length 1000 && Nat.blt wi 1000 && colsLt cols) = true)
    (h : topCall P H k d specs ⟨ckB ks ++ shB l, pc, [], ng⟩ f (.agg (ckV nil ng 1063 ks 0) :: shArgs l (ckB ks).length) (rowM nil gl ng wi cols) = true) : HoldsA P ng gl f ks l wi cols nil pc := by
  intro xs ys hx hy b off cap ws w hR hpc hW
  simp only [Bool.and_eq_true] at hn
  obtain ⟨⟨hn, hw⟩, hcl⟩ := hn
  have hn := Nat.le_of_ble_eq_true hn
  have hw : wi < 1000 := by simpa using hw
  have hlx := inAll_len hx
  have hly := inAll_len hy
  have hly2 : ys.length = (shKinds l).length := by simpa [shB] using hly
  have hlen : (xs ++ ys).length = (ckB ks ++ shB l).length := by simp [hlx, hly]
  have hlt : ∀ i, i < (xs ++ ys).length → rowρ (xs ++ ys) off ws i = (xs ++ ys).getD i 0 := fun i hi => rowρ_lt (by omega)
  have hg : Gok (rowρ (xs ++ ys) off ws) ⟨ckB ks ++ shB l, pc, [], ng⟩ := by
    refine ⟨fun i lo hi hi' => ?_, hpc⟩
    have := (gok_of (inAll_app hx hy) ng).vs i lo hi hi'
    have hi2 : i < (xs ++ ys).length := by rw [hlen]; exact nthI_lt hi'
    rw [hlt i hi2]
    exact this
  have hs : (sigG ng ++ [(b, cap)])[ng]? = some (b, cap) := by
    have : (sigG ng).length = ng := by simp [sigG]
    rw [List.getElem?_append_right (by omega), this]; simp
  have h1 := den_ckρ (nil := nil) (ρ := rowρ (xs ++ ys) off ws) hs rowρ_off ks xs 0 hlx (fun j hj => by
    rw [Nat.zero_add, hlt j (by simp; omega), getD_left hj])
  have h2 := den_shsρ (sigG ng ++ [(b, cap)]) (ρ := rowρ (xs ++ ys) off ws) l ys (ckB ks).length hly2 (fun j hj => by
    rw [← hlx, hlt _ (by simp; omega), List.getD_eq_getElem?_getD, List.getElem?_append_right (by omega), Nat.add_sub_cancel_left, ← List.getD_eq_getElem?_getD])
  refine topCall_ok hm hH h hg (fun i hi => ⟨0, get_pre (sigG_get hi)⟩) (σ := sigG ng ++ [(b, cap)]) ?_ (denL_cons (by simp only [den, h1]) h2)
  cases nil with
  | true => exact RM.globs1 _ hW (b, cap)
  | false =>
    refine RM.row _ hW ?_
    obtain ⟨cur, t, fr, h3, h4⟩ := hR rfl
    refine ⟨cur, t, fr, h3, fun i j kd a hi hj => ?_⟩
    simp only [E.val] at hi ⊢
    rw [rowρ_off, Int.toNat_natCast, rowρ_at (colsLt_get hcl hj)]
    refine h4 i j kd a ?_ hj
    rw [rowρ_lt hw] at hi
    exact hi
theorem holdsA_split {P : Program} {ng : Nat} {gl : List (Nat × IntKind × List Int)} {f : FuncId} {ks : List Ck} {l : List Sh} {wi : Nat} {cols : List (IntKind × Nat)} {nil : Bool} {pc : List (B × Bool)} (b : B) (h1 : HoldsA P ng gl f ks l wi cols nil ((b, true) :: pc)) (h2 : HoldsA P ng gl f ks l wi cols nil ((b, false) :: pc)) : HoldsA P ng gl f ks l wi cols nil pc := by
  intro xs ys hx hy bl off cap ws w hR hpc
  cases hb : b.val (rowρ (xs ++ ys) off ws) with
  | true => exact h1 xs ys hx hy bl off cap ws w hR (fun b' t' hm => by rcases List.mem_cons.1 hm with e | hm; cases e; exact hb; exact hpc b' t' hm)
  | false => exact h2 xs ys hx hy bl off cap ws w hR (fun b' t' hm => by rcases List.mem_cons.1 hm with e | hm; cases e; exact hb; exact hpc b' t' hm)
theorem ckVal_get {b off cap : Nat} : ∀ (ks : List Ck) (xs : List Int) (i : Nat), xs.length = (ckB ks).length → ks[i]? = some .s → (ckVal false b off cap ks xs)[i]? = some (.slice (some ⟨b, off, none⟩) (xs.getD i 0).toNat cap)
  | [], _, _, _, h => by simp at h
  | k :: ks, [], _, hl, _ => by cases k <;> simp [ckB] at hl
  | k :: ks, x :: xs, 0, _, h => by
    simp only [List.getElem?_cons_zero, Option.some.injEq] at h
    subst h
    simp [ckVal]
  | k :: ks, x :: xs, i + 1, hl, h => by
    have h : ks[i]? = some .s := by simpa using h
    have := ckVal_get (b := b) (off := off) (cap := cap) ks xs i (by cases k <;> simpa [ckB] using hl) h
    cases k <;> simp only [ckVal, List.getElem?_cons_succ, List.getD_cons_succ] <;> exact this
theorem calls_holdsA {P : Program} {ng : Nat} {gl : List (Nat × IntKind × List Int)} {f : FuncId} {ks : List Ck} {l : List Sh} {wi : Nat} {cols : List (IntKind × Nat)} {cs : List Value} {vs : List Value} (hn : ckSlices ks = 1) (hk : ks[wi]? = some .s) (hc : FitsCk ks cs) (hv : FitsAll l vs) (h : ∀ nil, HoldsA P ng gl f ks l wi cols nil []) (w : World)
    (hrow : ∀ b off n cap, cs[wi]? = some (.slice (some ⟨b, off, none⟩) n cap) → ∃ ws, RowAt w b off n cols ws) (hW : GlobsAre w ng gl) :
    Calls P f (.agg cs.toArray :: vs).toArray w fun e w' => e = .returned (.bool true) ∧ Below w.heap.size w w' := by
  obtain ⟨nil, b, off, cap, xs, hx, rfl⟩ := fit_one ks cs hn hc
  obtain ⟨ys, rfl, hy⟩ := fits_all l vs hv
  have hlx := inAll_len hx
  cases nil with
  | true => exact h true xs ys hx hy b off cap (fun _ _ => 0) w (fun h => by cases h) (fun q t hm => by cases hm) hW
  | false =>
    have hg := ckVal_get (b := b) (off := off) (cap := cap) ks xs wi hlx hk
    obtain ⟨ws, hr⟩ := hrow b off _ cap hg
    have hlt : wi < xs.length := by
      rw [hlx]
      have h1 : wi < ks.length := (List.getElem?_eq_some_iff.1 hk).1
      have h2 : (ckB ks).length = ks.length := by
        have : ∀ ks : List Ck, (ckB ks).length = ks.length := by
          intro ks
          induction ks with
          | nil => rfl
          | cons k ks ih => cases k <;> simp [ckB, ih]
        exact this ks
      omega
    exact h false xs ys hx hy b off cap ws w (fun _ => by rw [getD_left hlt]; exact hr) (fun q t hm => by cases hm) hW

theorem trod_field {H : Type} {enc : TypeId × Value → H} {P : Program} {W : World} {fuel : Nat} {t : TypeId} {cs : List Value} {x : DataW H × List MemPlace} {fs : Array Field} (hu : P.underlying t = some (.struct fs)) (h : DataW.trod enc P W 0 (fun _ => true) true fuel t cs = some x) (i : Nat) {f : Field} (hf : fs[i]? = some f) :
    ∃ n y, DataW.trod enc P W 0 (fun _ => true) true n f.type ((cs.drop f.offset).take (P.cellsOf f.type)) = some y := by
  obtain ⟨xs, n, _, _, _, hlen, hd⟩ := DataW.trod_struct hu h
  have hi : i < xs.length := by rw [hlen]; exact (Array.getElem?_eq_some_iff.1 hf).1
  exact ⟨n, xs[i], by rw [hd i f hf, List.getElem?_eq_getElem hi]⟩
theorem trod_field' {H : Type} {enc : TypeId × Value → H} {P : Program} {W : World} {fuel : Nat} {t : TypeId} {cs : List Value} {x : DataW H × List MemPlace} {fs : Array Field} (hu : P.underlying t = some (.struct fs)) (h : DataW.trod enc P W 0 (fun _ => true) true fuel t cs = some x) (i : Nat) {f : Field} (hf : fs[i]? = some f) (ty : TypeId) (o c : Nat)
    (ht : f.type = ty) (ho : f.offset = o) (hc : P.cellsOf ty = c) : ∃ n y, DataW.trod enc P W 0 (fun _ => true) true n ty ((cs.drop o).take c) = some y := by
  subst ht; subst ho; subst hc
  exact trod_field hu h i hf
/-- what a slice of integers holds -/
theorem row_of {H : Type} {enc : TypeId × Value → H} {P : Program} {W : World} {fuel : Nat} {t e : TypeId} {k : IntKind} {b off len cap : Nat} {x : DataW H × List MemPlace} (ht : P.underlying t = some (.slice e)) (he : P.underlying e = some (.int k)) (hc : P.cellsOf e = 1)
    (hsh : ∃ cur t fr, W.heap[b]? = some (.cells cur t fr)) (h : DataW.trod enc P W 0 (fun _ => true) true fuel t [.slice (some ⟨b, off, none⟩) len cap] = some x) : ∃ ws, RowAt W b off len [(k, 0)] ws := by
  rcases Deep.open_slice1 ht hc h with ⟨hcs, _⟩ | ⟨a, len', cap', m, n, V, D, Pl, hcs, _, hl, _, hm, _, hV⟩
  · cases hcs
  · simp only [List.cons.injEq, Value.slice.injEq, Option.some.injEq, and_true] at hcs
    obtain ⟨rfl, rfl, rfl⟩ := hcs
    simp only [if_true] at hm
    subst hm
    obtain ⟨cur, t', fr, hb⟩ := hsh
    have hint : ∀ i : Nat, i < m → ∃ q : Int, V i = .int k (k.wrap q) := by
      intro i hi
      obtain ⟨q, hq, _, hw⟩ := DataW.trod_int he (hV i hi).2
      simp only [Lit.wf, Bool.and_eq_true, decide_eq_true_eq] at hw
      have hq : V i = .int k q := by simpa using hq
      refine ⟨q, ?_⟩
      rw [hq]
      congr 1
      exact (wrap_same k q ⟨Int.le_trans (Int.le_of_eq (kmin_eq _)) hw.1, Int.le_trans hw.2 (Int.le_of_eq (kmax_eq _).symm)⟩).symm
    refine ⟨fun _ i => if h : i < m then Classical.choose (hint i h) else 0, cur, t', fr, hb, fun i j kd a hi hj => ?_⟩
    have hj0 : j = 0 := by have := (List.getElem?_eq_some_iff.1 hj).1; simpa using this
    subst hj0
    simp only [List.getElem?_cons_zero, Option.some.injEq, Prod.mk.injEq] at hj
    obtain ⟨rfl, rfl⟩ := hj
    have him : i < m := by omega
    have h1 := (hV i him).1
    rw [addr_add] at h1
    simp only [World.cell?, hb] at h1
    have h2 : cur[off + i]? = some (V i) := by simpa using h1
    simp only [List.length_cons, List.length_nil, Nat.zero_add, Nat.mul_one, Nat.add_zero, dif_pos him]
    rw [h2]
    exact congrArg some (Classical.choose_spec (hint i him))
theorem one_of {α : Type} {l : List α} {i o c p : Nat} {a : α} (h : l[i]? = some a) (hi : o + p = i) (hc : p < c) : ((((l.drop o).take c).drop p).take 1) = [a] := by
  apply List.ext_getElem?
  intro m
  cases m with
  | zero =>
    rw [List.getElem?_take, if_pos (by omega), List.getElem?_drop, List.getElem?_take, if_pos (by omega), List.getElem?_drop, show o + (p + 0) = i by omega, h]
    rfl
  | succ m =>
    rw [List.getElem?_take]
    simp
/-- where a slice in a struct points there are cells -/
theorem shape_of {P : Program} {w : World} {r : Reach} {base : Nat} {t ty e : TypeId} {cs : List Value} {d : TypeDesc} {ts : List TypeId} (hu : P.underlying t = some d) (hd : (match d with | .struct _ | .array _ _ => true | _ => false) = true)
    (hts : P.cellTypes P.depth t = some ts) (h : Value.okWide P w r base t (.agg cs.toArray)) {i b off n cap : Nat} (hi : cs[i]? = some (.slice (some ⟨b, off, none⟩) n cap)) (hty : ts[i]? = some ty) (he : P.underlying ty = some (.slice e)) : ∃ cur t fr, w.heap[b]? = some (.cells cur t fr) := by
  unfold Value.okWide at h
  have h' : ∃ cs', Value.agg cs.toArray = .agg cs' ∧ cs'.size = P.cellsOf t ∧ Row.okWide P w r base t cs' := by
    rw [hu] at h
    cases d <;> simp at hd <;> exact h
  obtain ⟨cs', e1, hsz, ts', hts', _, hc⟩ := h'
  cases e1
  rw [hts] at hts'
  cases hts'
  have hlt : i < ts.length := (List.getElem?_eq_some_iff.1 hty).1
  obtain ⟨u', hu', ho⟩ := hc i _ (by simpa using hi)
  rw [Nat.mod_eq_of_lt hlt, hty] at hu'
  cases hu'
  unfold Cell.okWide Cell.ok at ho
  simp only [he] at ho
  obtain ⟨_, _, _, _, row, cells, h2, _⟩ := ho
  unfold World.shape? at h2
  split at h2
  · rename_i c el fr hh
    exact ⟨c, el, fr, hh⟩
  · cases h2
end Go.Proofs.YtkljleenmmeneaaGreatDoor.Sy
