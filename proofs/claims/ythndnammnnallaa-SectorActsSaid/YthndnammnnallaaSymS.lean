/- The evaluator over memory known by name: the same state by other names. -/
import Derived.Test.YthndnammnnallaaSymK
namespace Go.Proofs.Ythndnammnnallaa.Sy
open Go.RowKit

theorem dn_beq {a b : DN} (h : a.beq b = true) : a = b := by
  cases a <;> cases b <;> simp only [DN.beq] at h
  · rw [eqI_eq] at h; rw [of_decide_eq_true h]
  · cases h
  · cases h
  · rw [E.beq_eq _ _ h]
theorem db_beq {a b : DB} (h : a.beq b = true) : a = b := by
  cases a <;> cases b <;> simp only [DB.beq] at h
  · rename_i a b; cases a <;> cases b <;> first | rfl | cases h
  · cases h
  · cases h
  · rw [B.beq_eq _ _ h]
theorem oddsO_get {α : Type} : ∀ (l : List (Option α)) (k : Nat), (oddsO l)[k]? = l[2 * k]?
  | [], k => by simp [oddsO]
  | [a], k => by
    cases k with
    | zero => rfl
    | succ k => simp [oddsO]
  | a :: b :: l, k => by
    cases k with
    | zero => rfl
    | succ k =>
      simp only [oddsO, List.getElem?_cons_succ, oddsO_get l k]
      rw [show 2 * (k + 1) = 2 * k + 1 + 1 by omega]
      simp
theorem evensO_get {α : Type} : ∀ (l : List (Option α)) (k : Nat), (evensO l)[k]? = l[2 * k + 1]?
  | [], k => by simp [evensO]
  | [a], k => by simp [evensO]
  | a :: b :: l, k => by
    cases k with
    | zero => rfl
    | succ k =>
      simp only [evensO, List.getElem?_cons_succ, evensO_get l k]
      rw [show 2 * (k + 1) = 2 * k + 1 + 1 by omega]
      simp
theorem PT.get_ofO {α : Type} : ∀ (d : Nat) (l : List (Option α)) (i : Nat) (x : α), (PT.ofO d l).get i = some x → l[i]? = some (some x)
  | 0, l, i, x, h => by simp only [PT.ofO, PT.get_e] at h; cases h
  | d + 1, [], i, x, h => by
    have := PT.get_full _ _ _ _ h
    cases this
  | d + 1, a :: l, i, x, h => by
    simp only [PT.ofO] at h
    rcases Nat.lt_trichotomy i 0 with h0 | h0 | h0
    · omega
    · subst h0
      rw [PT.get_0] at h
      simp [h]
    · rcases Nat.mod_two_eq_zero_or_one i with hm | hm
      · obtain ⟨k, rfl⟩ : ∃ k, i = 2 * k + 2 := ⟨i / 2 - 1, by omega⟩
        rw [PT.get_r] at h
        have := PT.get_ofO d _ _ _ h
        rw [evensO_get] at this
        rw [show 2 * k + 2 = (2 * k + 1) + 1 by omega, List.getElem?_cons_succ]
        exact this
      · obtain ⟨k, rfl⟩ : ∃ k, i = 2 * k + 1 := ⟨i / 2, by omega⟩
        rw [PT.get_l] at h
        have := PT.get_ofO d _ _ _ h
        rw [oddsO_get] at this
        rw [List.getElem?_cons_succ]
        exact this
theorem colsEq_ok : ∀ {a b : List (IntKind × Nat)}, colsEq a b = true → a = b
  | [], [], _ => rfl
  | (k, a) :: l, (k', a') :: l', h => by
    simp only [colsEq, Bool.and_eq_true] at h
    rw [kindNo_inj h.1.1, Nat.eq_of_beq_eq_true h.1.2, colsEq_ok h.2]
  | [], _ :: _, h => by cases h
  | _ :: _, [], h => by cases h

theorem PT.listO_get {α : Type} (t : PT α) : ∀ (k i j : Nat), (t.listO k i)[j]? = if j < k then some (t.get (i + j)) else none
  | 0, i, j => by simp [PT.listO]
  | k + 1, i, 0 => by simp [PT.listO]
  | k + 1, i, j + 1 => by
    simp only [PT.listO, List.getElem?_cons_succ, PT.listO_get t k (i + 1) j]
    by_cases h : j < k
    · rw [if_pos h, if_pos (by omega)]; congr 2; omega
    · rw [if_neg h, if_neg (by omega)]
theorem PT.trim_get {α : Type} {t : PT α} {d n i : Nat} {x : α} (h : (PT.ofO d (t.listO n 0)).get i = some x) : i < n ∧ t.get i = some x := by
  have h := PT.get_ofO _ _ _ _ h
  rw [PT.listO_get] at h
  split at h
  · rename_i hi
    simp only [Option.some.injEq, Nat.zero_add] at h
    exact ⟨hi, h⟩
  · cases h
theorem CF.beq_eq : ∀ {f h : CF}, f.beq h = true → f = h
  | .col a, h, hb => by
    cases h <;> simp only [CF.beq] at hb <;> first | (rw [Nat.eq_of_beq_eq_true hb]) | cases hb
  | .zero, h, hb => by
    cases h <;> simp only [CF.beq] at hb <;> first | rfl | cases hb
  | .upd i x f, h, hb => by
    cases h <;> simp only [CF.beq, Bool.and_eq_true] at hb
    case upd => rw [E.beq_eq _ _ hb.1.1, dn_beq hb.1.2, CF.beq_eq hb.2]
    all_goals cases hb
  | .cut m f f', h, hb => by
    cases h <;> simp only [CF.beq, Bool.and_eq_true] at hb
    case cut => rw [E.beq_eq _ _ hb.1.1, CF.beq_eq hb.1.2, CF.beq_eq hb.2]
    all_goals cases hb
section
variable {S : List Nat} {w0 w : World} {ρ : Nat → Int} {σ σ' : List (Nat × Nat)} {nb nx : Nat} {ts : List Nat}
mutual
theorem vren_ok (hσ : ∀ b y, b < nx → σ[ren nb ts b]? = some y → σ'[b]? = some y) : ∀ (u v : V) (x : Value), vren nb nx ts u v = true → den ρ σ v = some x → den ρ σ' u = some x
  | .bool a, v, x, h, hx => by
    cases v <;> simp only [vren] at h <;> try (cases h; done)
    rw [db_beq h]; exact hx
  | .int j a, v, x, h, hx => by
    cases v <;> simp only [vren] at h <;> try (cases h; done)
    simp only [Bool.and_eq_true] at h
    rw [kindNo_inj h.1, dn_beq h.2]; exact hx
  | .str a, v, x, h, hx => by
    cases v <;> simp only [vren] at h <;> try (cases h; done)
    simp only [baEq_eq, decide_eq_true_eq] at h
    subst h; exact hx
  | .nilp, v, x, h, hx | .nils, v, x, h, hx | .nili, v, x, h, hx | .nilm, v, x, h, hx | .nilf, v, x, h, hx => by
    cases v <;> simp only [vren] at h <;> try (cases h; done)
    exact hx
  | .ptr b o, v, x, h, hx => by
    cases v <;> simp only [vren] at h <;> try (cases h; done)
    simp only [Bool.and_eq_true] at h
    obtain ⟨⟨h1, h2⟩, h3⟩ := h
    rw [← Nat.eq_of_beq_eq_true h1, ← Nat.eq_of_beq_eq_true h2] at hx
    simp only [den] at hx ⊢
    cases hb : σ[ren nb ts b]? with
    | none => rw [hb] at hx; cases hx
    | some y => rw [hb] at hx; rw [hσ b y (by simpa using h3) hb]; exact hx
  | .slice b o l c, v, x, h, hx => by
    cases v <;> simp only [vren] at h <;> try (cases h; done)
    rename_i b' o' l' c'
    simp only [Bool.and_eq_true] at h
    obtain ⟨⟨⟨⟨h1, h2⟩, h4⟩, h3⟩, h5⟩ := h
    have hc : c = c' := by
      cases c <;> cases c' <;> simp only [cpEq] at h5 <;> first | (rw [Nat.eq_of_beq_eq_true h5]) | cases h5
    rw [← Nat.eq_of_beq_eq_true h1, ← Nat.eq_of_beq_eq_true h2, ← Nat.eq_of_beq_eq_true h4, ← hc] at hx
    simp only [den] at hx ⊢
    cases hb : σ[ren nb ts b]? with
    | none => rw [hb] at hx; cases hx
    | some y => rw [hb] at hx; rw [hσ b y (by simpa using h3) hb]; exact hx
  | .pel b o z i j, v, x, h, hx => by
    cases v <;> simp only [vren] at h <;> try (cases h; done)
    simp only [Bool.and_eq_true] at h
    obtain ⟨⟨⟨⟨⟨h1, h3⟩, h4⟩, h6⟩, h5⟩, h7⟩ := h
    rw [← Nat.eq_of_beq_eq_true h1, ← Nat.eq_of_beq_eq_true h6, ← Nat.eq_of_beq_eq_true h7, ← E.beq_eq _ _ h4, ← E.beq_eq _ _ h5] at hx
    simp only [den] at hx ⊢
    cases hb : σ[ren nb ts b]? with
    | none => rw [hb] at hx; cases hx
    | some y => rw [hb] at hx; rw [hσ b y (by simpa using h3) hb]; exact hx
  | .sl b o l, v, x, h, hx => by
    cases v <;> simp only [vren] at h <;> try (cases h; done)
    simp only [Bool.and_eq_true] at h
    obtain ⟨⟨⟨h1, h3⟩, h4⟩, h5⟩ := h
    rw [← Nat.eq_of_beq_eq_true h1, ← E.beq_eq _ _ h4, ← E.beq_eq _ _ h5] at hx
    simp only [den] at hx ⊢
    cases hb : σ[ren nb ts b]? with
    | none => rw [hb] at hx; cases hx
    | some y => rw [hb] at hx; rw [hσ b y (by simpa using h3) hb]; exact hx
  | .map b, v, x, h, hx => by
    cases v <;> simp only [vren] at h <;> try (cases h; done)
    simp only [Bool.and_eq_true] at h
    rw [← Nat.eq_of_beq_eq_true h.1] at hx
    simp only [den] at hx ⊢
    cases hb : σ[ren nb ts b]? with
    | none => rw [hb] at hx; cases hx
    | some y => rw [hb] at hx; rw [hσ b y (by simpa using h.2) hb]; exact hx
  | .func _ _ _, v, x, h, hx => by simp only [vren] at h; cases h
  | .iface t u, v, x, h, hx => by
    cases v <;> simp only [vren] at h <;> try (cases h; done)
    rename_i t' u'
    simp only [Bool.and_eq_true] at h
    simp only [den] at hx
    cases hv : den ρ σ u' with
    | none => rw [hv] at hx; cases hx
    | some y =>
      rw [hv] at hx
      have := vren_ok hσ u u' y h.2 hv
      simp only [den, this, Nat.eq_of_beq_eq_true h.1]
      exact hx
  | .agg xs, v, x, h, hx => by
    cases v <;> simp only [vren] at h <;> try (cases h; done)
    rename_i ys
    simp only [den] at hx
    cases hv : denL ρ σ ys with
    | none => rw [hv] at hx; cases hx
    | some y =>
      rw [hv] at hx
      have := vrens_ok hσ xs ys y h hv
      simp only [den, this]
      exact hx
  | .tup xs, v, x, h, hx => by
    cases v <;> simp only [vren] at h <;> try (cases h; done)
    rename_i ys
    simp only [den] at hx
    cases hv : denL ρ σ ys with
    | none => rw [hv] at hx; cases hx
    | some y =>
      rw [hv] at hx
      have := vrens_ok hσ xs ys y h hv
      simp only [den, this]
      exact hx
theorem vrens_ok (hσ : ∀ b y, b < nx → σ[ren nb ts b]? = some y → σ'[b]? = some y) : ∀ (u v : List V) (x : List Value), vrens nb nx ts u v = true → denL ρ σ v = some x → denL ρ σ' u = some x
  | [], v, x, h, hx => by
    cases v <;> simp only [vrens] at h <;> try (cases h; done)
    rw [denL_nil] at hx ⊢; exact hx
  | a :: l, v, x, h, hx => by
    cases v <;> simp only [vrens] at h <;> try (cases h; done)
    rename_i b k
    simp only [Bool.and_eq_true] at h
    obtain ⟨y, z, h1, h2, rfl⟩ := denL_cons_eq hx
    exact denL_cons (vren_ok hσ a b y h.1 h1) (vrens_ok hσ l k z h.2 h2)
end
theorem crens_ok {f : V → V → Bool} {cs ds : PT V} : ∀ {k i : Nat}, crens f cs ds k i = true → ∀ j u, j < k → cs.get (i + j) = some u → ∃ v, ds.get (i + j) = some v ∧ f u v = true
  | 0, _, _, j, u, hj, _ => absurd hj (Nat.not_lt_zero _)
  | k + 1, i, h, j, u, hj, hu => by
    simp only [crens, Bool.and_eq_true] at h
    cases j with
    | zero =>
      rw [Nat.add_zero] at hu ⊢
      have h1 := h.1
      rw [hu] at h1
      simp only at h1
      split at h1
      · rename_i v hv; exact ⟨v, hv, h1⟩
      · cases h1
    | succ j =>
      have := crens_ok h.2 j u (by omega) (by rw [← hu]; congr 1; omega)
      rwa [show i + 1 + j = i + (j + 1) by omega] at this
theorem bren_ok (hσ : ∀ b y, b < nx → σ[ren nb ts b]? = some y → σ'[b]? = some y) {b c : Nat} {k k' : Blk} (h : bren (vren nb nx ts) k k' = true) (hh : holds ρ σ w b c k') : holds ρ σ' w b c k ∧ (k.live = true → k'.live = true ∧ k'.ro = k.ro) := by
  have one : ∀ {cs ds : PT V} {cur : Array Value} {n : Nat}, crens (vren nb nx ts) cs ds n 0 = true → cellsOk ρ σ cur n ds → cellsOk ρ σ' cur n cs := by
    intro cs ds cur n hc ho
    refine ⟨ho.1, fun i v hi hv => ?_⟩
    obtain ⟨u, hu, hf⟩ := crens_ok hc i v hi (by rw [Nat.zero_add]; exact hv)
    rw [Nat.zero_add] at hu
    obtain ⟨x, h1, h2⟩ := ho.2 i u hi hu
    exact ⟨x, vren_ok hσ v u x hf h1, h2⟩
  cases k with
  | cells t n cs =>
    cases k' <;> simp only [bren] at h <;> try (cases h; done)
    simp only [Bool.and_eq_true] at h
    obtain ⟨⟨h1, h2⟩, h3⟩ := h
    have h1 := Nat.eq_of_beq_eq_true h1
    have h2 := Nat.eq_of_beq_eq_true h2
    subst h1; subst h2
    obtain ⟨cur, tt, e1, e2, e3⟩ := hh
    exact ⟨⟨cur, tt, e1, one h3 e2, e3⟩, fun _ => ⟨rfl, rfl⟩⟩
  | row t z n cs =>
    cases k' <;> simp only [bren] at h <;> try (cases h; done)
    simp only [Bool.and_eq_true] at h
    obtain ⟨⟨⟨h1, h0⟩, h2⟩, h3⟩ := h
    have h1 := Nat.eq_of_beq_eq_true h1
    have h0 := Nat.eq_of_beq_eq_true h0
    have h2 := Nat.eq_of_beq_eq_true h2
    subst h1; subst h2; subst h0
    obtain ⟨cur, e1, e2, e3⟩ := hh
    exact ⟨⟨cur, e1, one h3 e2, e3⟩, fun _ => ⟨rfl, rfl⟩⟩
  | gone => exact ⟨trivial, fun h => by cases h⟩
  | map es => cases k' <;> simp only [bren] at h <;> cases h
  | iter a b c => cases k' <;> simp only [bren] at h <;> cases h
  | arr o n cols =>
    cases k' <;> simp only [bren] at h <;> try (cases h; done)
    simp only [Bool.and_eq_true] at h
    obtain ⟨⟨h1, h2⟩, h3⟩ := h
    have h1 := E.beq_eq _ _ h1
    have h2 := E.beq_eq _ _ h2
    have h3 := colsEq_ok h3
    subst h1; subst h2; subst h3
    exact ⟨hh, fun _ => ⟨rfl, rfl⟩⟩
  | fn k0 n f =>
    cases k' <;> simp only [bren] at h <;> try (cases h; done)
    simp only [Bool.and_eq_true] at h
    obtain ⟨⟨h1, h2⟩, h3⟩ := h
    have h1 := kindNo_inj h1
    have h2 := E.beq_eq _ _ h2
    have h3 := CF.beq_eq h3
    subst h1; subst h2; subst h3
    exact ⟨hh, fun _ => ⟨rfl, rfl⟩⟩
theorem brens_ok {f : V → V → Bool} {bs ds : PT Blk} : ∀ {l : List Nat} {i : Nat}, brens f bs ds l i = true → ∀ j b k, l[j]? = some b → bs.get (i + j) = some k → ∃ k', ds.get b = some k' ∧ bren f k k' = true
  | [], _, _, j, b, k, hj, _ => by simp at hj
  | a :: l, i, h, j, b, k, hj, hk => by
    simp only [brens, Bool.and_eq_true] at h
    cases j with
    | zero =>
      simp only [List.getElem?_cons_zero, Option.some.injEq] at hj
      subst hj
      rw [Nat.add_zero] at hk
      have h1 := h.1
      rw [hk] at h1
      simp only at h1
      split at h1
      · rename_i k' hk'; exact ⟨k', hk', h1⟩
      · cases h1
    | succ j => exact brens_ok h.2 j b k (by simpa using hj) (by rw [← hk]; congr 1; omega)
theorem idTs_get (ts : List Nat) : ∀ (k i j : Nat), (idTs ts k i)[j]? = if j < k then some (i + j) else ts[j - k]?
  | 0, i, j => by simp [idTs]
  | k + 1, i, 0 => by simp [idTs]
  | k + 1, i, j + 1 => by
    simp only [idTs, List.getElem?_cons_succ, idTs_get ts k (i + 1) j]
    by_cases h : j < k
    · rw [if_pos h, if_pos (by omega)]; congr 1; omega
    · rw [if_neg h, if_neg (by omega)]; congr 1; omega
theorem nthD_get : ∀ {l : List Nat} {i : Nat}, i < l.length → l[i]? = some (nthD l i)
  | [], i, h => by simp at h
  | x :: l, 0, _ => rfl
  | x :: l, i + 1, h => by
    simp only [List.getElem?_cons_succ, nthD]
    exact nthD_get (by simpa using h)
theorem allIn_mem {lo hi : Nat} : ∀ {l : List Nat}, allIn lo hi l = true → ∀ b ∈ l, lo ≤ b ∧ b < hi
  | [], _, b, hb => by cases hb
  | x :: l, h, b, hb => by
    simp only [allIn, Bool.and_eq_true] at h
    rcases List.mem_cons.1 hb with rfl | hb
    · exact ⟨Nat.le_of_ble_eq_true h.1.1, by simpa using h.1.2⟩
    · exact allIn_mem h.2 b hb
theorem memN_mem {i : Nat} : ∀ {l : List Nat}, i ∈ l → memN i l = true
  | [], h => by cases h
  | j :: l, h => by
    simp only [memN, Bool.or_eq_true]
    rcases List.mem_cons.1 h with rfl | h
    · left; simp
    · right; exact memN_mem h
theorem nodupN_get : ∀ {l : List Nat}, nodupN l = true → ∀ (i j b : Nat), l[i]? = some b → l[j]? = some b → i = j
  | [], _, i, j, b, hi, _ => by simp at hi
  | x :: l, h, i, j, b, hi, hj => by
    simp only [nodupN, Bool.and_eq_true, Bool.not_eq_true'] at h
    cases i with
    | zero =>
      cases j with
      | zero => rfl
      | succ j =>
        simp only [List.getElem?_cons_zero, Option.some.injEq] at hi
        subst hi
        have := memN_mem (List.mem_of_getElem? (by simpa using hj : l[j]? = some x))
        rw [this] at h; cases h.1
    | succ i =>
      cases j with
      | zero =>
        simp only [List.getElem?_cons_zero, Option.some.injEq] at hj
        subst hj
        have := memN_mem (List.mem_of_getElem? (by simpa using hi : l[i]? = some x))
        rw [this] at h; cases h.1
      | succ j => rw [nodupN_get h.2 i j b (by simpa using hi) (by simpa using hj)]
theorem blt_no {a b : Nat} (h : ¬ a < b) : Nat.blt a b = false := by
  rw [Bool.eq_false_iff]
  intro hh
  exact h (by simpa using hh)
/-- names stay within their table -/
def Bnd (st : St) : Prop := (∀ n k, st.mem.blks.get n = some k → n < st.mem.next) ∧ (∀ i v, st.tm.get i = some v → i < st.n)
theorem bnd_trim (st : St) : Bnd st.trim := ⟨fun _ _ h => (PT.trim_get h).1, fun _ _ h => (PT.trim_get h).1⟩
theorem RT.trim {ng : Nat} {st : St} {a : Act} (h : RT ρ σ ng st.n st.tm a) : RT ρ σ ng st.trim.n st.trim.tm a :=
  ⟨h.size, fun i v hv => h.get i v (PT.trim_get hv).2, h.defers, h.glob⟩
theorem RM.trim {st : St} (h : RM ρ S w0 σ st.mem w) : RM ρ S w0 σ st.trim.mem w :=
  ⟨h.fr, h.len, fun n k hn => h.blk n k (PT.trim_get hn).2, h.own, fun i j k l hi hj => h.inj i j k l (PT.trim_get hi).2 (PT.trim_get hj).2⟩
/-- a state that is another one's, but for names -/
theorem rens_ok {d e : St} {ng : Nat} {a : Act} {σn τ1 : List (Nat × Nat)} (hT : RT ρ (σn ++ τ1) ng e.n e.tm a) (hM : RM ρ S w0 (σn ++ τ1) e.mem w) (hlen : σn.length = nb) (hng : ng ≤ nb) (hn : d.n = e.n) (hlim : d.mem.lim = e.mem.lim) (hlimnb : d.mem.lim ≤ nb) (hds : d.tm.ds = []) (hes : e.tm.ds = [])
    (hb : rensB nb d.mem.next ts d.tm e.tm d.mem e.mem d.n = true) (hbd : Bnd d) : ∃ τ, RT ρ (σn ++ τ) ng d.n d.tm a ∧ RM ρ S w0 (σn ++ τ) d.mem w := by
  unfold rensB at hb
  simp only [Bool.and_eq_true] at hb
  obtain ⟨⟨⟨⟨⟨⟨h1, h2⟩, h3⟩, h4⟩, h5⟩, h6⟩, h7⟩ := hb
  have h2 := Nat.eq_of_beq_eq_true h2
  have h3 := Nat.eq_of_beq_eq_true h3
  have hts := allIn_mem h5
  have hlen2 : (σn ++ τ1).length = d.mem.next := by rw [hM.len, h2]
  refine ⟨ts.map fun b => ((σn ++ τ1)[b]?).getD (0, 0), ?_⟩
  have hlt : ∀ j, j < d.mem.next → (idTs ts nb 0)[j]? = some (ren nb ts j) := by
    intro j hj
    rw [idTs_get]
    unfold ren
    by_cases hjn : j < nb
    · rw [if_pos hjn, show Nat.blt j nb = true from by simpa using hjn]; simp
    · rw [if_neg hjn, blt_no hjn]
      exact nthD_get (by omega)
  have hren : ∀ j, j < d.mem.next → (σn ++ ts.map fun b => ((σn ++ τ1)[b]?).getD (0, 0))[j]? = (σn ++ τ1)[ren nb ts j]? := by
    intro j hj
    unfold ren
    by_cases hjn : j < nb
    · rw [show Nat.blt j nb = true from by simpa using hjn, List.getElem?_append_left (by omega)]
      simp only
      rw [List.getElem?_append_left (by omega)]
    · rw [blt_no hjn, List.getElem?_append_right (by omega)]
      simp only
      have hg := nthD_get (l := ts) (i := j - nb) (by omega)
      have hin := hts _ (List.mem_of_getElem? hg)
      rw [List.getElem?_map, hlen, hg]
      simp only [Option.map_some]
      rw [List.getElem?_eq_getElem (by omega)]
      simp
  have hσ : ∀ b y, b < d.mem.next → (σn ++ τ1)[ren nb ts b]? = some y → (σn ++ ts.map fun b => ((σn ++ τ1)[b]?).getD (0, 0))[b]? = some y := fun b y hb hy => by rw [hren b hb]; exact hy
  refine ⟨⟨by rw [hn]; exact hT.size, ?_, ?_, ?_⟩, hM.fr, by simp [hlen, h3], ?_, ?_, ?_⟩
  · intro i v hv
    obtain ⟨u, hu, hf⟩ := crens_ok h6 i v (hbd.2 i v hv) (by rw [Nat.zero_add]; exact hv)
    rw [Nat.zero_add] at hu
    exact vren_ok hσ v u _ hf (hT.get i u hu)
  · rw [hds]
    have hd := hT.defers
    rw [hes] at hd
    obtain ⟨ys, e1, e2⟩ := hd
    rw [denL_nil] at e1
    cases e1
    simp only [defsOf, Option.some.injEq] at e2
    rw [← e2]; exact DefR.nil
  · intro i hi
    obtain ⟨c, hc⟩ := hT.glob i hi
    refine ⟨c, ?_⟩
    rw [List.getElem?_append_left (by omega)] at hc ⊢
    exact hc
  · intro n k hk
    have hnx := hbd.1 n k hk
    obtain ⟨k', hk', hf⟩ := brens_ok h7 n _ k (hlt n hnx) (by rw [Nat.zero_add]; exact hk)
    obtain ⟨b, c, hs, hh⟩ := hM.blk _ _ hk'
    exact ⟨b, c, by rw [hren n hnx]; exact hs, (bren_ok hσ hf hh).1⟩
  · intro n b c hl hs
    rw [hlim] at hl
    have hnx : n < d.mem.next := by
      have := (List.getElem?_eq_some_iff.1 hs).1
      simp only [List.length_append, List.length_map] at this
      omega
    rw [hren n hnx] at hs
    refine hM.own _ b c ?_ hs
    unfold ren
    by_cases hjn : n < nb
    · rw [show Nat.blt n nb = true from by simpa using hjn]; exact hl
    · rw [blt_no hjn]
      have hg := nthD_get (l := ts) (i := n - nb) (by omega)
      have := (hts _ (List.mem_of_getElem? hg)).1
      simp only
      omega
  · intro i j k l hi hj hne hk hl hro x y hx hy
    have hix := hbd.1 i k hi
    have hjx := hbd.1 j l hj
    obtain ⟨k', hk', hf⟩ := brens_ok h7 i _ k (hlt i hix) (by rw [Nat.zero_add]; exact hi)
    obtain ⟨l', hl', hf'⟩ := brens_ok h7 j _ l (hlt j hjx) (by rw [Nat.zero_add]; exact hj)
    obtain ⟨b, c, hs, hh⟩ := hM.blk _ _ hk'
    obtain ⟨b', c', hs', hh'⟩ := hM.blk _ _ hl'
    obtain ⟨e1, e2⟩ := (bren_ok hσ hf hh).2 hk
    obtain ⟨e3, e4⟩ := (bren_ok hσ hf' hh').2 hl
    rw [hren i hix] at hx
    rw [hren j hjx] at hy
    refine hM.inj _ _ k' l' hk' hl' ?_ e1 e3 (by rw [e2, e4]; exact hro) x y hx hy
    intro e
    unfold ren at e
    by_cases hin : i < nb <;> by_cases hjn : j < nb
    · rw [show Nat.blt i nb = true from by simpa using hin, show Nat.blt j nb = true from by simpa using hjn] at e
      exact hne e
    · rw [show Nat.blt i nb = true from by simpa using hin, blt_no hjn] at e
      simp only at e
      have := (hts _ (List.mem_of_getElem? (nthD_get (l := ts) (i := j - nb) (by omega)))).1
      omega
    · rw [blt_no hin, show Nat.blt j nb = true from by simpa using hjn] at e
      simp only at e
      have := (hts _ (List.mem_of_getElem? (nthD_get (l := ts) (i := i - nb) (by omega)))).1
      omega
    · rw [blt_no hin, blt_no hjn] at e
      simp only at e
      have g1 := nthD_get (l := ts) (i := i - nb) (by omega)
      have g2 := nthD_get (l := ts) (i := j - nb) (by omega)
      rw [e] at g1
      have := nodupN_get h4 _ _ _ g1 g2
      omega
theorem eqBools_eq : ∀ {a b : List Bool}, eqBools a b = true → a = b
  | [], b, h => by
    cases b <;> simp only [eqBools] at h
    · rfl
    · cases h
  | x :: a, b, h => by
    cases b with
    | nil => simp only [eqBools] at h; cases h
    | cons y b =>
      simp only [eqBools, Bool.and_eq_true] at h
      rw [eqBools_eq h.2]
      have h1 := h.1
      revert h1
      cases x <;> cases y <;> intro h1 <;> first | rfl | cases h1
theorem isNilV_eq {l : List V} (h : isNilV l = true) : l = [] := by
  cases l with
  | nil => rfl
  | cons _ _ => cases h
/-- among these entries there is one for whatever state is so -/
def Has (ρ : Nat → Int) (S : List Nat) (w0 : World) (ng : Nat) (σn : List (Nat × Nat)) (out : List DE) (l : Array Bool) (st : St) : Prop :=
  ∀ τ1 a w, RT ρ (σn ++ τ1) ng st.n st.tm a → RM ρ S w0 (σn ++ τ1) st.mem w → ∃ d ∈ out, d.l = l ∧ ∃ τ, RT ρ (σn ++ τ) ng d.st.n d.st.tm a ∧ RM ρ S w0 (σn ++ τ) d.st.mem w
theorem Has.mono {ng : Nat} {σn : List (Nat × Nat)} {out out' : List DE} {l : Array Bool} {st : St} (h : Has ρ S w0 ng σn out l st) (hs : ∀ d ∈ out, d ∈ out') : Has ρ S w0 ng σn out' l st := by
  intro τ1 a w hT hM
  obtain ⟨d, hd, h1, h2⟩ := h τ1 a w hT hM
  exact ⟨d, hs d hd, h1, h2⟩
theorem insDE_ok {ng : Nat} {σn : List (Nat × Nat)} (hlen : σn.length = nb) (hng : ng ≤ nb) {e : DE} : ∀ {out out' : List DE}, insDE nb e out = some out' → (∀ d ∈ out, Bnd d.st) → (∀ d ∈ out, d ∈ out') ∧ (∀ d ∈ out', Bnd d.st) ∧ Has ρ S w0 ng σn out' e.l e.st
  | [], out', h, hB => by
    simp only [insDE, Option.some.injEq] at h
    subst h
    refine ⟨fun d hd => (by cases hd), fun d hd => ?_, fun τ1 a w hT hM => ⟨_, List.mem_cons_self, rfl, τ1, hT.trim, hM.trim⟩⟩
    simp only [List.mem_cons, List.not_mem_nil, or_false] at hd
    subst hd; exact bnd_trim _
  | d :: l, out', h, hB => by
    simp only [insDE] at h
    split at h
    · rename_i hq
      have hq := eqBools_eq hq
      have hq : d.l = e.l := Array.toList_inj.1 hq
      split at h
      · rename_i hc
        simp only [Option.some.injEq] at h
        subst h
        simp only [Bool.and_eq_true] at hc
        obtain ⟨⟨⟨⟨⟨h1, h2⟩, h3⟩, h4⟩, h5⟩, h6⟩ := hc
        refine ⟨fun _ hd => hd, hB, fun τ1 a w hT hM => ⟨d, List.mem_cons_self, hq, ?_⟩⟩
        exact rens_ok hT hM hlen hng (Nat.eq_of_beq_eq_true h1) (Nat.eq_of_beq_eq_true h2) (Nat.le_of_ble_eq_true h3) (isNilV_eq h4) (isNilV_eq h5) h6 (hB d List.mem_cons_self)
      · cases h
    · split at h
      · rename_i l' hl
        simp only [Option.some.injEq] at h
        subst h
        obtain ⟨k1, k2, k3⟩ := insDE_ok hlen hng hl (fun d hd => hB d (List.mem_cons_of_mem _ hd))
        refine ⟨fun x hx => ?_, fun x hx => ?_, k3.mono (fun x hx => List.mem_cons_of_mem _ hx)⟩
        · rcases List.mem_cons.1 hx with rfl | hx
          · exact List.mem_cons_self
          · exact List.mem_cons_of_mem _ (k1 x hx)
        · rcases List.mem_cons.1 hx with rfl | hx
          · exact hB x List.mem_cons_self
          · exact k2 x hx
      · cases h
end
end Go.Proofs.Ythndnammnnallaa.Sy
