/- The evaluator over memory known by name: an argument that is a struct of integers, bools, and slices of which just the length counts; behind it integers. -/
import Derived.Test.YtkljleenmmeneaaGreatDoorHook
namespace Go.Proofs.YtkljleenmmeneaaGreatDoor.Sy
open Go.RowKit

inductive Ck where
  | i (k : IntKind)
  | b
  | s
def ckB : List Ck → List (Int × Int)
  | [] => []
  | .i k :: r => (kmin k, kmax k) :: ckB r
  | .b :: r => (0, 255) :: ckB r
  | .s :: r => (0, 9223372036854775807) :: ckB r
def ckV (nil : Bool) (nm oi : Nat) : List Ck → Nat → List V
  | [], _ => []
  | .i k :: r, i => .int k (.d (.v i)) :: ckV nil nm oi r (i + 1)
  | .b :: r, i => .bool (.d (.eq (.v i) (.c 1))) :: ckV nil nm oi r (i + 1)
  | .s :: r, i => (match nil with
    | true => .nils
    | false => .sl nm (.v oi) (.v i)) :: ckV nil nm oi r (i + 1)
def ckVal (nil : Bool) (b off cap : Nat) : List Ck → List Int → List Value
  | .i k :: r, x :: xs => .int k x :: ckVal nil b off cap r xs
  | .b :: r, x :: xs => .bool (decide (x = 1)) :: ckVal nil b off cap r xs
  | .s :: r, l :: xs => (match nil with
    | true => .slice none 0 0
    | false => .slice (some ⟨b, off, none⟩) l.toNat cap) :: ckVal nil b off cap r xs
  | _, _ => []
theorem den_ck {σ : List (Nat × Nat)} {nil : Bool} {nm oi b off cap : Nat} {all : List Int} (hs : σ[nm]? = some (b, cap)) (ho : all.getD oi 0 = off) : ∀ (ks : List Ck) (xs : List Int) (i : Nat), xs.length = (ckB ks).length → (∀ j, j < xs.length → all.getD (i + j) 0 = xs.getD j 0) → denL (fun i => all.getD i 0) σ (ckV nil nm oi ks i) = some (ckVal nil b off cap ks xs)
  | [], [], i, _, _ => denL_nil
  | .i k :: r, x :: xs, i, hl, h => by
    have h0 := h 0 (by simp)
    simp only [Nat.add_zero, List.getD_cons_zero] at h0
    refine denL_cons ?_ (den_ck hs ho r xs (i + 1) (by simpa [ckB] using hl) (fun j hj => ?_))
    · simp only [den, DN.val, E.val, h0]
    · have := h (j + 1) (by simp; omega)
      rw [show i + 1 + j = i + (j + 1) by omega, this]
      simp
  | .b :: r, x :: xs, i, hl, h => by
    have h0 := h 0 (by simp)
    simp only [Nat.add_zero, List.getD_cons_zero] at h0
    refine denL_cons ?_ (den_ck hs ho r xs (i + 1) (by simpa [ckB] using hl) (fun j hj => ?_))
    · simp only [den, DB.val, B.val, E.val, h0]
    · have := h (j + 1) (by simp; omega)
      rw [show i + 1 + j = i + (j + 1) by omega, this]
      simp
  | .s :: r, l :: xs, i, hl, h => by
    have h0 := h 0 (by simp)
    simp only [Nat.add_zero, List.getD_cons_zero] at h0
    refine denL_cons ?_ (den_ck hs ho r xs (i + 1) (by simpa [ckB] using hl) (fun j hj => ?_))
    · cases nil with
      | true => simp only [den]
      | false => simp only [den, hs, E.val, h0, ho, Int.toNat_natCast]
    · have := h (j + 1) (by simp; omega)
      rw [show i + 1 + j = i + (j + 1) by omega, this]
      simp
  | [], _ :: _, _, hl, _ => by simp [ckB] at hl
  | .i _ :: _, [], _, hl, _ => by simp [ckB] at hl
  | .b :: _, [], _, hl, _ => by simp [ckB] at hl
  | .s :: _, [], _, hl, _ => by simp [ckB] at hl
theorem getD_left {a b : List Int} {i : Nat} (h : i < a.length) : (a ++ b).getD i 0 = a.getD i 0 := by
  rw [List.getD_eq_getElem?_getD, List.getElem?_append_left h, ← List.getD_eq_getElem?_getD]
theorem nthI_lt : ∀ {vs : List (Int × Int)} {i : Nat} {r : Int × Int}, nthI vs i = some r → i < vs.length
  | [], _, _, h => by cases h
  | _ :: _, 0, _, _ => by simp
  | x :: vs, i + 1, r, h => by
    have : nthI vs i = some r := h
    have := nthI_lt this
    simp; omega
theorem gok_more {xs : List Int} {vs : List (Int × Int)} (h : inAll xs vs) (o : Int) (n : Nat) : Gok (fun i => (xs ++ [o]).getD i 0) ⟨vs, [], [], n⟩ := by
  have h0 := gok_of h n
  refine ⟨fun i lo hi hi' => ?_, (fun b t h => by cases h)⟩
  have hlt : i < xs.length := by have := nthI_lt hi'; rw [inAll_len h]; exact this
  have := h0.vs i lo hi hi'
  show lo ≤ (xs ++ [o]).getD i 0 ∧ (xs ++ [o]).getD i 0 ≤ hi
  rw [getD_left hlt]
  exact this
theorem RM.globs1 (ρ : Nat → Int) {w : World} {ng : Nat} {l : List (Nat × IntKind × List Int)} (h : GlobsAre w ng l) (y : Nat × Nat) : RM ρ [] w (sigG ng ++ [y]) ⟨gTab l, ng + 1, ng + 1⟩ w := by
  have h0 := RM.globs ρ h
  refine ⟨Fr.refl [] w, by simp [sigG], ?_, ?_, ?_⟩
  · intro n k hk
    obtain ⟨b, c, h1, h2⟩ := h0.blk n k hk
    exact ⟨b, c, get_pre h1, holds_pre h2⟩
  · intro n b c hl hs
    have hl : ng + 1 ≤ n := hl
    rw [List.getElem?_eq_none (by simp [sigG]; exact hl)] at hs; cases hs
  · intro i j k m hk hm hne h1 h2 hro x z hx hz
    obtain ⟨b, c, e1, _⟩ := h0.blk i k hk
    obtain ⟨b', c', e2, _⟩ := h0.blk j m hm
    rw [get_pre e1] at hx; cases hx
    rw [get_pre e2] at hz; cases hz
    exact h0.inj i j k m hk hm hne h1 h2 hro _ _ e1 e2
/-- the law holds of arguments of which these tests hold -/
def HoldsF (P : Program) (ng : Nat) (gl : List (Nat × IntKind × List Int)) (f : FuncId) (ks : List Ck) (l : List Sh) (nil : Bool) (pc : List (B × Bool)) : Prop :=
  ∀ xs ys : List Int, inAll xs (ckB ks) → inAll ys (shB l) → ∀ (b off cap : Nat), (∀ q t, (q, t) ∈ pc → q.val (fun i => (xs ++ ys ++ [(off : Int)]).getD i 0) = t) → ∀ (w : World), GlobsAre w ng gl →
    Calls P f (.agg (ckVal nil b off cap ks xs).toArray :: shVals l ys).toArray w fun e w' => e = .returned (.bool true) ∧ Below w.heap.size w w'
theorem holdsF_run {P : Program} (hm : P.follows .mixedOrders = true) (k ng : Nat) (gl : List (Nat × IntKind × List Int)) {tab : List HE} {f : FuncId} {ks : List Ck} {l : List Sh} {nil : Bool} {pc : List (B × Bool)} (ht : ∀ ρ, Gok ρ ⟨ckB ks ++ shB l, pc, [], ng⟩ → ∀ h ∈ tab, EntryOk P ng gl ρ h)
    (h : (xcallH P (hookN ng gl tab) k ⟨ckB ks ++ shB l, pc, [], ng⟩ f (.agg (ckV nil ng (ckB ks ++ shB l).length ks 0) :: shArgs l (ckB ks).length) ⟨gTab gl, ng + 1, ng + 1⟩).allB isTrue = true) : HoldsF P ng gl f ks l nil pc := by
  intro xs ys hx hy b off cap hpc w hW
  have hlx := inAll_len hx
  have hly := inAll_len hy
  have hly2 : ys.length = (shKinds l).length := by simpa [shB] using hly
  have hg : Gok (fun i => (xs ++ ys ++ [(off : Int)]).getD i 0) ⟨ckB ks ++ shB l, pc, [], ng⟩ := ⟨(gok_more (inAll_app hx hy) _ 0).vs, hpc⟩
  have hs : (sigG ng ++ [(b, cap)])[ng]? = some (b, cap) := by
    have : (sigG ng).length = ng := by simp [sigG]
    rw [List.getElem?_append_right (by omega), this]; simp
  have ho : (xs ++ ys ++ [(off : Int)]).getD (ckB ks ++ shB l).length 0 = off := by
    rw [List.getD_eq_getElem?_getD, List.getElem?_append_right (by simp [hlx, hly])]
    simp [hlx, hly]
  have h1 := den_ck (nil := nil) hs ho ks xs 0 hlx (fun j hj => by
    rw [Nat.zero_add, getD_left (by simp; omega), getD_left hj])
  have h2 := den_shs (sigG ng ++ [(b, cap)]) l (xs ++ ys ++ [(off : Int)]) ys (ckB ks).length hly2 (fun j hj => by
    rw [← hlx, getD_left (by simp; omega), List.getD_eq_getElem?_getD, List.getElem?_append_right (by omega), Nat.add_sub_cancel_left, ← List.getD_eq_getElem?_getD])
  refine (all_okH hm (hookN_ok (ht _ hg)) k).1 _ f _ _ (.agg (ckVal nil b off cap ks xs).toArray :: shVals l ys) [] w (sigG ng ++ [(b, cap)]) w _ hg (fun i hi => ⟨0, get_pre (sigG_get hi)⟩) (RM.globs1 _ hW (b, cap)) (denL_cons (by simp only [den, h1]) h2) (T.all_mono ?_ (T.all_of_allB h))
  rintro ⟨e, m⟩ he τ w' hM
  cases e with
  | pan v => cases he
  | ret v =>
    cases v with
    | bool b =>
      cases b with
      | s b =>
        intro x hx
        cases (den_bool hx)
        simp only [isTrue] at he
        subst he
        exact ⟨rfl, hM.fr.below⟩
      | d b => cases he
    | _ => cases he
theorem holdsF_split {P : Program} {ng : Nat} {gl : List (Nat × IntKind × List Int)} {f : FuncId} {ks : List Ck} {l : List Sh} {nil : Bool} {pc : List (B × Bool)} (b : B) (h1 : HoldsF P ng gl f ks l nil ((b, true) :: pc)) (h2 : HoldsF P ng gl f ks l nil ((b, false) :: pc)) : HoldsF P ng gl f ks l nil pc := by
  intro xs ys hx hy bl off cap hpc
  cases hb : b.val (fun i => (xs ++ ys ++ [(off : Int)]).getD i 0) with
  | true => exact h1 xs ys hx hy bl off cap (fun b' t' hm => by rcases List.mem_cons.1 hm with e | hm; cases e; exact hb; exact hpc b' t' hm)
  | false => exact h2 xs ys hx hy bl off cap (fun b' t' hm => by rcases List.mem_cons.1 hm with e | hm; cases e; exact hb; exact hpc b' t' hm)
/-- cells of these kinds -/
def Ck.Fits : Ck → Value → Prop
  | .i k, v => ∃ n, v = .int k n ∧ k.min ≤ n ∧ n ≤ k.max
  | .b, v => ∃ b, v = .bool b
  | .s, v => v = .slice none 0 0 ∨ ∃ b o n cap, v = .slice (some ⟨b, o, none⟩) n cap ∧ (n : Int) ≤ 9223372036854775807
def FitsCk : List Ck → List Value → Prop
  | [], [] => True
  | k :: ks, c :: cs => k.Fits c ∧ FitsCk ks cs
  | _, _ => False
def ckSlices : List Ck → Nat
  | [] => 0
  | .s :: r => ckSlices r + 1
  | _ :: r => ckSlices r
theorem fit_none (b off cap : Nat) (nil : Bool) : ∀ (ks : List Ck) (cs : List Value), ckSlices ks = 0 → FitsCk ks cs → ∃ xs, inAll xs (ckB ks) ∧ cs = ckVal nil b off cap ks xs
  | [], [], _, _ => ⟨[], trivial, rfl⟩
  | .i k :: ks, c :: cs, hn, h => by
    obtain ⟨⟨n, rfl, h1, h2⟩, h3⟩ := h
    obtain ⟨xs, e1, rfl⟩ := fit_none b off cap nil ks cs hn h3
    exact ⟨n :: xs, ⟨⟨Int.le_trans (Int.le_of_eq (kmin_eq _)) h1, Int.le_trans h2 (Int.le_of_eq (kmax_eq _).symm)⟩, e1⟩, rfl⟩
  | .b :: ks, c :: cs, hn, h => by
    obtain ⟨⟨t, rfl⟩, h3⟩ := h
    obtain ⟨xs, e1, rfl⟩ := fit_none b off cap nil ks cs hn h3
    cases t with
    | true => exact ⟨1 :: xs, ⟨⟨by decide, by decide⟩, e1⟩, rfl⟩
    | false => exact ⟨0 :: xs, ⟨⟨by decide, by decide⟩, e1⟩, rfl⟩
  | .s :: _, _, hn, _ => by simp [ckSlices] at hn
  | [], _ :: _, _, h => h.elim
  | .i _ :: _, [], _, h => h.elim
  | .b :: _, [], _, h => h.elim
/-- with one slice among them -/
theorem fit_one : ∀ (ks : List Ck) (cs : List Value), ckSlices ks = 1 → FitsCk ks cs → ∃ nil b off cap xs, inAll xs (ckB ks) ∧ cs = ckVal nil b off cap ks xs
  | [], _, hn, _ => by simp [ckSlices] at hn
  | .i k :: ks, c :: cs, hn, h => by
    obtain ⟨⟨n, rfl, h1, h2⟩, h3⟩ := h
    obtain ⟨nil, b, off, cap, xs, e1, rfl⟩ := fit_one ks cs hn h3
    exact ⟨nil, b, off, cap, n :: xs, ⟨⟨Int.le_trans (Int.le_of_eq (kmin_eq _)) h1, Int.le_trans h2 (Int.le_of_eq (kmax_eq _).symm)⟩, e1⟩, rfl⟩
  | .b :: ks, c :: cs, hn, h => by
    obtain ⟨⟨t, rfl⟩, h3⟩ := h
    obtain ⟨nil, b, off, cap, xs, e1, rfl⟩ := fit_one ks cs hn h3
    cases t with
    | true => exact ⟨nil, b, off, cap, 1 :: xs, ⟨⟨by decide, by decide⟩, e1⟩, rfl⟩
    | false => exact ⟨nil, b, off, cap, 0 :: xs, ⟨⟨by decide, by decide⟩, e1⟩, rfl⟩
  | .s :: ks, c :: cs, hn, h => by
    obtain ⟨h1, h3⟩ := h
    have hz : ckSlices ks = 0 := by simpa [ckSlices] using hn
    rcases h1 with rfl | ⟨b, o, n, cap, rfl, h4⟩
    · obtain ⟨xs, e1, rfl⟩ := fit_none 0 0 0 true ks cs hz h3
      exact ⟨true, 0, 0, 0, 0 :: xs, ⟨⟨by decide, by decide⟩, e1⟩, rfl⟩
    · obtain ⟨xs, e1, rfl⟩ := fit_none b o cap false ks cs hz h3
      exact ⟨false, b, o, cap, n :: xs, ⟨⟨by show (0 : Int) ≤ n; omega, h4⟩, e1⟩, rfl⟩
  | .i _ :: _, [], _, h => h.elim
  | .b :: _, [], _, h => h.elim
  | .s :: _, [], _, h => h.elim

/-- which kind a cell of this type is -/
def ckOf (P : Program) (t : TypeId) : Option Ck := match P.underlying t with
  | some (.int k) => some (.i k)
  | some .bool => some .b
  | some (.slice _) => some .s
  | _ => none
theorem ck_of_ok {P : Program} {w : World} {r : Reach} {base : Nat} {u : TypeId} {v : Value} {k : Ck} (hk : ckOf P u = some k) (h : Cell.okWide P w r base u v) : k.Fits v := by
  unfold ckOf at hk
  split at hk
  · rename_i k' hu
    cases hk
    unfold Cell.okWide Cell.ok at h
    simp only [hu] at h
    cases v <;> simp at h
    obtain ⟨rfl, h1, h2⟩ := h
    exact ⟨_, rfl, h1, h2⟩
  · rename_i hu
    cases hk
    unfold Cell.okWide Cell.ok at h
    simp only [hu] at h
    cases v <;> simp at h
    exact ⟨_, rfl⟩
  · rename_i e hu
    cases hk
    unfold Cell.okWide Cell.ok at h
    simp only [hu] at h
    cases v <;> try (cases h; done)
    rename_i a n cap
    cases a with
    | none =>
      match n, cap, h with
      | 0, 0, _ => exact .inl rfl
    | some a =>
      obtain ⟨h1, h2, h3⟩ := h
      have hsp : a.spot = none := h3.2.1
      obtain ⟨b, off, spot⟩ := a
      dsimp only at hsp
      subst hsp
      refine .inr ⟨b, off, n, cap, rfl, ?_⟩
      have : IntKind.i64.max = 9223372036854775807 := rfl
      omega
  · cases hk
theorem fits_of_cells {P : Program} {w : World} {r : Reach} {base : Nat} : ∀ (ts : List TypeId) (ks : List Ck) (cs : List Value), ts.mapM (ckOf P) = some ks → cs.length = ts.length →
    (∀ (i : Nat) (v : Value) (u : TypeId), cs[i]? = some v → ts[i]? = some u → Cell.okWide P w r base u v) → FitsCk ks cs
  | [], ks, [], hk, _, _ => by simp at hk; subst hk; trivial
  | t :: ts, ks, c :: cs, hk, hl, h => by
    rw [List.mapM_cons] at hk
    simp only [bind, Option.bind_eq_some_iff, pure, Option.some.injEq] at hk
    obtain ⟨k, hk1, ks', hk2, rfl⟩ := hk
    exact ⟨ck_of_ok hk1 (h 0 c t rfl rfl), fits_of_cells ts ks' cs hk2 (by simpa using hl) (fun i v u hv hu => h (i + 1) v u hv hu)⟩
  | [], _, _ :: _, _, hl, _ => by simp at hl
  | _ :: _, _, [], _, hl, _ => by simp at hl
/-- an argument that is a struct of integers, bools and slices -/
theorem open_ck {P : Program} {w : World} {r : Reach} {base : Nat} {t : TypeId} {v : Value} {d : TypeDesc} {ts : List TypeId} {ks : List Ck} (hu : P.underlying t = some d) (hd : (match d with | .struct _ | .array _ _ => true | _ => false) = true)
    (hts : P.cellTypes P.depth t = some ts) (hks : ts.mapM (ckOf P) = some ks) (hn : P.cellsOf t = ts.length) (h : Value.okWide P w r base t v) : ∃ cs : List Value, v = .agg cs.toArray ∧ FitsCk ks cs := by
  unfold Value.okWide at h
  have h' : ∃ cs, v = .agg cs ∧ cs.size = P.cellsOf t ∧ Row.okWide P w r base t cs := by
    rw [hu] at h
    cases d <;> simp at hd <;> exact h
  obtain ⟨cs, rfl, hsz, ts', hts', _, hc⟩ := h'
  rw [hts] at hts'
  cases hts'
  refine ⟨cs.toList, by simp, fits_of_cells (w := w) (r := r) (base := base) ts ks cs.toList hks (by simp [hsz, hn]) ?_⟩
  intro i v u hv hu
  have hi : i < ts.length := (List.getElem?_eq_some_iff.1 hu).1
  obtain ⟨u', hu', ho⟩ := hc i v (by simpa using hv)
  rw [Nat.mod_eq_of_lt hi, hu] at hu'
  cases hu'
  exact ho
theorem calls_holdsF {P : Program} {ng : Nat} {gl : List (Nat × IntKind × List Int)} {f : FuncId} {ks : List Ck} {l : List Sh} {cs : List Value} {vs : List Value} (hn : ckSlices ks = 1) (hc : FitsCk ks cs) (hv : FitsAll l vs) (h : ∀ nil, HoldsF P ng gl f ks l nil []) (w : World) (hW : GlobsAre w ng gl) :
    Calls P f (.agg cs.toArray :: vs).toArray w fun e w' => e = .returned (.bool true) ∧ Below w.heap.size w w' := by
  obtain ⟨nil, b, off, cap, xs, hx, rfl⟩ := fit_one ks cs hn hc
  obtain ⟨ys, rfl, hy⟩ := fits_all l vs hv
  exact h nil xs ys hx hy b off cap (fun _ _ hm => by cases hm) w hW
end Go.Proofs.YtkljleenmmeneaaGreatDoor.Sy
