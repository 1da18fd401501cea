/- The evaluator over memory known by name: loops by an invariant: states, texts. -/
import Derived.Test.YtkljleenmmeneaaGreatDoorTopA
namespace Go.Proofs.YtkljleenmmeneaaGreatDoor.Sy
open Go.RowKit

theorem cinst_ok {f : V → V → Bool} {cs : PT V} : ∀ {l : List (Option V)} {i : Nat}, cinst f cs l i = true → ∀ j tv, l[j]? = some (some tv) → ∃ v, cs.get (i + j) = some v ∧ f tv v = true
  | [], _, _, j, tv, hj => by simp at hj
  | none :: l, i, h, j, tv, hj => by
    cases j with
    | zero => cases hj
    | succ j =>
      have h : cinst f cs l (i + 1) = true := h
      have := cinst_ok h j tv (by simpa using hj)
      rwa [show i + 1 + j = i + (j + 1) by omega] at this
  | some u :: l, i, h, j, tv, hj => by
    simp only [cinst, Bool.and_eq_true] at h
    cases j with
    | zero =>
      simp only [List.getElem?_cons_zero, Option.some.injEq] at hj
      subst hj
      have h1 := h.1
      split at h1
      · rename_i v hv; exact ⟨v, hv, h1⟩
      · cases h1
    | succ j =>
      have := cinst_ok h.2 j tv (by simpa using hj)
      rwa [show i + 1 + j = i + (j + 1) by omega] at this
theorem bsinst_ok {q : E → E → Bool} {f : V → V → Bool} {bs : PT Blk} : ∀ {l : List BT} {i : Nat}, bsinst q f bs l i = true → ∀ j b, l[j]? = some b → binst q f b (bs.get (i + j)) = true
  | [], _, _, j, b, hj => by simp at hj
  | a :: l, i, h, j, b, hj => by
    simp only [bsinst, Bool.and_eq_true] at h
    cases j with
    | zero =>
      simp only [List.getElem?_cons_zero, Option.some.injEq] at hj
      subst hj; exact h.1
    | succ j =>
      have := bsinst_ok h.2 j b (by simpa using hj)
      rwa [show i + 1 + j = i + (j + 1) by omega] at this

section
variable {S : List Nat} {w0 w : World} {ρ : Nat → Int} {g : G} {σ : List (Nat × Nat)} {P : Program} {s : List (Nat × E)} {st : St} {a : Act} {p : Tp} {H : Hook} {k : Nat}
theorem holds_inst (hg : Gok ρ g) (hs : Hi s) {nT b c : Nat} {bt : BT} {kb : Blk} {kt : Blk} (hi : binst (fun a b => sameE g (a.subst s) b) (vinst g s nT) bt (some kb) = true) (ht : bt.blk = some kt) (h : holds ρ σ w b c kb) : holds (subV ρ s) (σ.take nT) w b c kt ∧ kb.live = true ∧ kb.ro = kt.ro := by
  have one : ∀ {cs : PT V} {l : List (Option V)} {cur : Array Value} {n : Nat}, cinst (vinst g s nT) cs l 0 = true → cellsOk ρ σ cur n cs → cellsOk (subV ρ s) (σ.take nT) cur n (PT.ofO 14 l) := by
    intro cs l cur n hc ho
    refine ⟨ho.1, fun i v hi hv => ?_⟩
    obtain ⟨u, hu, hf⟩ := cinst_ok hc i v (PT.get_ofO _ _ _ _ hv)
    rw [Nat.zero_add] at hu
    obtain ⟨x, h1, h2⟩ := ho.2 i u hi hu
    exact ⟨x, vinst_ok hg hs v u x hf h1, h2⟩
  cases bt with
  | no => cases ht
  | arr o n cols =>
    cases ht
    cases kb <;> try (cases hi; done)
    rename_i o' n' cols'
    simp only [binst, Bool.and_eq_true] at hi
    have e1 := sameE_ok hg hi.1.1
    have e2 := sameE_ok hg hi.1.2
    have e3 := colsEq_ok hi.2
    subst e3
    rw [subst_val hs] at e1 e2
    obtain ⟨cur, t, fr, h1, h2⟩ := h
    refine ⟨⟨cur, t, fr, h1, fun i j kd a hi hj => ?_⟩, rfl, rfl⟩
    rw [e2] at hi
    rw [e1]
    have hl : subV ρ s (arrIdx a i) = ρ (arrIdx a i) := by unfold subV; rw [hs _ (by unfold arrIdx; omega)]
    rw [hl]
    exact h2 i j kd a hi hj
  | cells t n l =>
    cases ht
    cases kb <;> try (cases hi; done)
    rename_i t' n' cs
    simp only [binst, Bool.and_eq_true] at hi
    obtain ⟨cur, tt, h1, h2, h3⟩ := h
    have e := Nat.eq_of_beq_eq_true hi.1.2
    subst e
    have e2 := Nat.eq_of_beq_eq_true hi.1.1
    subst e2
    exact ⟨⟨cur, tt, h1, one hi.2 h2, h3⟩, rfl, rfl⟩
  | row t z n l =>
    cases ht
    cases kb <;> try (cases hi; done)
    rename_i t' z' n' cs
    simp only [binst, Bool.and_eq_true] at hi
    obtain ⟨⟨⟨e1, e2⟩, e3⟩, h4⟩ := hi
    have e1 := Nat.eq_of_beq_eq_true e1
    have e2 := Nat.eq_of_beq_eq_true e2
    have e3 := Nat.eq_of_beq_eq_true e3
    subst e1; subst e2; subst e3
    obtain ⟨cur, h1, h2, h3⟩ := h
    exact ⟨⟨cur, h1, one h4 h2, h3⟩, rfl, rfl⟩
/-- a state that is a template's -/
theorem inst_ok (hg : Gok ρ g) (hs0 : Hi s) (h : p.inst g s st = true) (hT : RT ρ σ g.ng st.n st.tm a) (hM : RM ρ S w0 σ st.mem w) :
    RT (subV ρ s) (σ.take p.bs.length) g.ng p.st.n p.st.tm a ∧ RM (subV ρ s) S w0 (σ.take p.bs.length) p.st.mem w := by
  unfold Tp.inst at h
  simp only [Bool.and_eq_true] at h
  obtain ⟨⟨⟨⟨⟨⟨⟨h1, h2⟩, h3⟩, h4⟩, h4'⟩, h5⟩, h6⟩, h7⟩ := h
  have h1 := Nat.eq_of_beq_eq_true h1
  have h2 := Nat.le_of_ble_eq_true h2
  have h3 := Nat.eq_of_beq_eq_true h3
  have h4' := Nat.le_of_ble_eq_true h4'
  have hlen : (σ.take p.bs.length).length = p.bs.length := by rw [List.length_take, hM.len]; omega
  have hds : a.defers = [] := by
    have hd := hT.defers
    split at h5
    · rename_i hd0
      rw [hd0] at hd
      obtain ⟨xs, e1, e2⟩ := hd
      rw [denL_nil] at e1
      cases e1
      simp only [defsOf, Option.some.injEq] at e2
      exact e2.symm
    · cases h5
  refine ⟨⟨by rw [hT.size, ← h1]; rfl, ?_, ?_, ?_⟩, hM.fr, hlen, ?_, ?_, ?_⟩
  · intro i v hv
    have hv : (PT.ofO 12 p.L).get i = some v := hv
    obtain ⟨u, hu, hf⟩ := cinst_ok h6 i v (PT.get_ofO _ _ _ _ hv)
    rw [Nat.zero_add] at hu
    exact vinst_ok hg hs0 v u _ hf (hT.get i u hu)
  · rw [hds]; exact DefR.nil
  · intro i hi
    obtain ⟨c, hc⟩ := hT.glob i hi
    exact ⟨c, take_get hc (by omega)⟩
  · intro n kt hn
    have hn : (PT.ofO 14 (p.bs.map BT.blk)).get n = some kt := hn
    have hb := PT.get_ofO _ _ _ _ hn
    rw [List.getElem?_map] at hb
    cases hbt : p.bs[n]? with
    | none => rw [hbt] at hb; cases hb
    | some bt =>
      rw [hbt] at hb
      simp only [Option.map_some, Option.some.injEq] at hb
      have hi := bsinst_ok h7 n bt hbt
      rw [Nat.zero_add] at hi
      have hlt : n < p.bs.length := (List.getElem?_eq_some_iff.1 hbt).1
      cases hk : st.mem.blks.get n with
      | none => rw [hk] at hi; cases bt <;> first | (cases hi; done) | cases hb
      | some kb =>
        rw [hk] at hi
        obtain ⟨b, c, hs, hh⟩ := hM.blk n kb hk
        exact ⟨b, c, take_get hs hlt, (holds_inst hg hs0 hi hb hh).1⟩
  · intro n b c hl hs
    have hl : p.lim ≤ n := hl
    rw [List.getElem?_take] at hs
    split at hs
    · exact hM.own n b c (by omega) hs
    · cases hs
  · intro i j k1 k2 hi hj hne hl1 hl2 hro x y hx hy
    have get : ∀ {n : Nat} {kt : Blk}, p.st.mem.blks.get n = some kt → ∃ kb, st.mem.blks.get n = some kb ∧ kb.live = true ∧ kb.ro = kt.ro := by
      intro n kt hn
      have hn : (PT.ofO 14 (p.bs.map BT.blk)).get n = some kt := hn
      have hb := PT.get_ofO _ _ _ _ hn
      rw [List.getElem?_map] at hb
      cases hbt : p.bs[n]? with
      | none => rw [hbt] at hb; cases hb
      | some bt =>
        rw [hbt] at hb
        simp only [Option.map_some, Option.some.injEq] at hb
        have hi := bsinst_ok h7 n bt hbt
        rw [Nat.zero_add] at hi
        cases hk : st.mem.blks.get n with
        | none => rw [hk] at hi; cases bt <;> first | (cases hi; done) | cases hb
        | some kb =>
          rw [hk] at hi
          obtain ⟨b, c, hs, hh⟩ := hM.blk n kb hk
          exact ⟨kb, rfl, (holds_inst hg hs0 hi hb hh).2⟩
    obtain ⟨b1, e1, l1, o1⟩ := get hi
    obtain ⟨b2, e2, l2, o2⟩ := get hj
    rw [List.getElem?_take] at hx hy
    split at hx
    · split at hy
      · exact hM.inj i j b1 b2 e1 e2 hne l1 l2 (by rw [o1, o2]; exact hro) x y hx hy
      · cases hy
    · cases hx
theorem allG_ok {α : Type} {f : G → α → Bool} : ∀ {t : T α} {g : G}, t.allG f g = true → Gok ρ g → t.all ρ (fun x => ∃ g', Gok ρ g' ∧ g'.ng = g.ng ∧ g'.vs = g.vs ∧ f g' x = true)
  | .ret x, g, h, hg => ⟨g, hg, rfl, rfl, h⟩
  | .br b t e, g, h, hg => by
    simp only [T.allG, Bool.and_eq_true] at h
    exact ⟨(fun hb => T.all_mono (fun _ ⟨g', h1, h2, h3, h4⟩ => ⟨g', h1, h2, h3, h4⟩) (allG_ok h.1 (hg.add hb))), (fun hb => T.all_mono (fun _ ⟨g', h1, h2, h3, h4⟩ => ⟨g', h1, h2, h3, h4⟩) (allG_ok h.2 (hg.add hb)))⟩
  | .alt t e, g, h, hg => by
    simp only [T.allG, Bool.and_eq_true] at h
    exact ⟨allG_ok h.1 hg, allG_ok h.2 hg⟩
  | .bad, _, h, _ => by cases h
theorem lookS_of {st : St} : ∀ {l : List (Pos × Int × Int)} {N : Nat} {s : List (Nat × E)}, subOf st l N = some s → ∀ i, i < N → lookS s i = none
  | [], N, s, h, i, hi => by cases h; rfl
  | (q, r) :: l, N, s, h, i, hi => by
    simp only [subOf] at h
    split at h
    · split at h
      · rename_i s' hs
        cases h
        simp only [lookS]
        have : Nat.beq N i = false := by rw [Bool.eq_false_iff]; intro hh; have := Nat.eq_of_beq_eq_true hh; omega
        rw [this]
        exact lookS_of hs i (by omega)
      · cases h
    · cases h
theorem lookS_hi {st : St} : ∀ {l : List (Pos × Int × Int)} {N : Nat} {s : List (Nat × E)}, subOf st l N = some s → N + l.length ≤ 1000 → Hi s
  | [], N, s, h, _ => by cases h; exact fun _ _ => rfl
  | (q, r) :: l, N, s, h, hn => by
    simp only [subOf] at h
    split at h
    · split at h
      · rename_i s' hs
        cases h
        intro j hj
        simp only [List.length_cons] at hn
        simp only [lookS]
        have : Nat.beq N j = false := by rw [Bool.eq_false_iff]; intro hh; have := Nat.eq_of_beq_eq_true hh; omega
        rw [this]
        exact lookS_hi hs (by omega) j hj
      · cases h
    · cases h
theorem nthI_app : ∀ (a b : List (Int × Int)) (i : Nat), nthI (a ++ b) i = if i < a.length then nthI a i else nthI b (i - a.length)
  | [], b, i => by simp
  | x :: a, b, 0 => rfl
  | x :: a, b, i + 1 => by
    show nthI (a ++ b) i = _
    rw [nthI_app a b i]
    simp only [List.length_cons]
    by_cases h : i < a.length
    · rw [if_pos h, if_pos (by omega)]; rfl
    · rw [if_neg h, if_neg (by omega)]
      congr 1; omega
theorem ranges_ok (hg : Gok ρ g) : ∀ {l : List (Pos × Int × Int)} {N : Nat}, rangesB g s l N = true → ∀ i lo hi, nthI (l.map (·.2)) i = some (lo, hi) → lo ≤ subV ρ s (N + i) ∧ subV ρ s (N + i) ≤ hi
  | [], N, _, i, lo, hi, h => by cases h
  | (q, a, b) :: l, N, h, i, lo, hi, hn => by
    simp only [rangesB, Bool.and_eq_true] at h
    cases i with
    | zero =>
      have hn : some (a, b) = some (lo, hi) := hn
      cases hn
      have h1 := h.1
      split at h1
      · rename_i e he
        split at h1
        · rename_i x y hr
          simp only [Bool.and_eq_true, leI_eq, decide_eq_true_eq] at h1
          have := rng_in hg _ _ hr
          simp only [subV, Nat.add_zero, he]
          exact ⟨Int.le_trans h1.1 this.1, Int.le_trans this.2 h1.2⟩
        · cases h1
      · cases h1
    | succ i =>
      have hn : nthI (l.map (·.2)) i = some (lo, hi) := hn
      have := ranges_ok hg h.2 i lo hi hn
      rwa [show N + 1 + i = N + (i + 1) by omega] at this
theorem byPc_ok {a b : E} : ∀ {l : List (B × Bool)}, (∀ q t, (q, t) ∈ l → q.val ρ = t) → byPc a b l = true → a.val ρ ≤ b.val ρ
  | [], _, h => by cases h
  | (q, t) :: l, hl, h => by
    simp only [byPc, Bool.or_eq_true] at h
    rcases h with h | h
    · have hq := hl q t List.mem_cons_self
      split at h
      · rename_i x y
        have e1 := linX_val (ρ := ρ) b 1 ([], 0)
        have e2 := linX_val (ρ := ρ) a (-1) (linX 1 b ([], 0))
        simp only [sumA] at e1
        split at h
        · simp only [Bool.and_eq_true, leI_eq, decide_eq_true_eq] at h
          have e3 := linX_val (ρ := ρ) x 1 (linX (-1) a (linX 1 b ([], 0)))
          have e4 := linX_val (ρ := ρ) y (-1) (linX 1 x (linX (-1) a (linX 1 b ([], 0))))
          rw [noneA_val (ρ := ρ) _ h.1] at e4
          simp only [B.val, decide_eq_true_eq] at hq
          omega
        · simp only [Bool.and_eq_true, leI_eq, decide_eq_true_eq] at h
          have e3 := linX_val (ρ := ρ) x (-1) (linX (-1) a (linX 1 b ([], 0)))
          have e4 := linX_val (ρ := ρ) y 1 (linX (-1) x (linX (-1) a (linX 1 b ([], 0))))
          rw [noneA_val (ρ := ρ) _ h.1] at e4
          simp only [B.val, decide_eq_false_iff_not] at hq
          omega
      · cases h
    · exact byPc_ok (fun q t hm => hl q t (List.mem_cons_of_mem _ hm)) h
theorem impliedB_ok (hg : Gok ρ g) {b : B} {t : Bool} (h : impliedB g b t = true) : b.val ρ = t := by
  unfold impliedB at h
  split at h
  · have := byPc_ok hg.pc h
    simp only [B.val, decide_eq_false_iff_not]
    omega
  · cases h
theorem facts_ok (hg : Gok ρ g) (hs : Hi s) : ∀ {l : List (B × Bool)}, factsB g s l = true → ∀ b t, (b, t) ∈ l → b.val (subV ρ s) = t
  | [], _, b, t, hm => by cases hm
  | (b', t') :: l, h, b, t, hm => by
    simp only [factsB, Bool.and_eq_true] at h
    rcases List.mem_cons.1 hm with e | hm
    · cases e
      have h1 := h.1
      split at h1
      · rename_i u hu
        have := dec_ok hg _ _ hu
        rw [substB_val hs] at this
        rw [this]
        revert h1
        cases t' <;> cases u <;> intro h1 <;> first | rfl | cases h1
      · rw [← substB_val hs]
        exact impliedB_ok hg h1
    · exact facts_ok hg hs h.2 b t hm
/-- the same below n, and where rows stand -/
def Agr (n : Nat) (ρ ρ0 : Nat → Int) : Prop := ∀ i, (i < n ∨ 1000 ≤ i) → ρ i = ρ0 i
theorem belE_val {ρ ρ' : Nat → Int} {n : Nat} (h : Agr n ρ ρ') : ∀ (e : E), belE n e = true → e.val ρ = e.val ρ'
  | .v i, hb => by
    simp only [belE, Bool.or_eq_true] at hb
    rcases hb with hb | hb
    · exact h i (.inl (by simpa using hb))
    · exact h i (.inr (Nat.le_of_ble_eq_true hb))
  | .c _, _ => rfl
  | .bin o k a b, hb => by
    simp only [belE, Bool.and_eq_true] at hb
    simp only [E.val, belE_val h a hb.1, belE_val h b hb.2]
  | .wrap k a, hb => by
    simp only [belE] at hb
    simp only [E.val, belE_val h a hb]
  | .ld k a i, hb => by
    simp only [belE] at hb
    simp only [E.val, belE_val h i hb]
    rw [h _ (.inr (by unfold arrIdx; omega))]
theorem belB_val {ρ ρ' : Nat → Int} {n : Nat} (h : Agr n ρ ρ') : ∀ (b : B), belB n b = true → b.val ρ = b.val ρ'
  | .lt a b, hb => by
    simp only [belB, Bool.and_eq_true] at hb
    simp only [B.val, belE_val h a hb.1, belE_val h b hb.2]
  | .eq a b, hb => by
    simp only [belB, Bool.and_eq_true] at hb
    simp only [B.val, belE_val h a hb.1, belE_val h b hb.2]
  | .not b, hb => by
    simp only [belB] at hb
    simp only [B.val, belB_val h b hb]
  | .and a b, hb => by
    simp only [belB, Bool.and_eq_true] at hb
    simp only [B.val, belB_val h a hb.1, belB_val h b hb.2]
theorem keepPc_mem {n : Nat} {b : B} {t : Bool} : ∀ {l : List (B × Bool)}, (b, t) ∈ keepPc n l → (b, t) ∈ l ∧ belB n b = true
  | [], h => by cases h
  | (b', t') :: l, h => by
    simp only [keepPc] at h
    split at h
    · rename_i hb
      rcases List.mem_cons.1 h with e | h
      · cases e; exact ⟨List.mem_cons_self, hb⟩
      · exact ⟨List.mem_cons_of_mem _ (keepPc_mem h).1, (keepPc_mem h).2⟩
    · exact ⟨List.mem_cons_of_mem _ (keepPc_mem h).1, (keepPc_mem h).2⟩
mutual
theorem vbelE_den {ρ ρ' : Nat → Int} {n : Nat} (h : Agr n ρ ρ') (σ : List (Nat × Nat)) : ∀ (v : V), vbelE n v = true → den ρ σ v = den ρ' σ v
  | .bool b, hb => by
    simp only [vbelE] at hb
    cases b with
    | s b => rfl
    | d b => simp only [belD] at hb; simp only [den, DB.val, belB_val h b hb]
  | .int k m, hb => by
    simp only [vbelE] at hb
    cases m with
    | s b => rfl
    | d b => simp only [belN] at hb; simp only [den, DN.val, belE_val h b hb]
  | .sl _ o l, hb => by
    simp only [vbelE, Bool.and_eq_true] at hb
    simp only [den, belE_val h o hb.1, belE_val h l hb.2]
  | .pel _ o _ i _, hb => by
    simp only [vbelE, Bool.and_eq_true] at hb
    simp only [den, belE_val h o hb.1, belE_val h i hb.2]
  | .func _ a c, hb => by
    simp only [vbelE, Bool.and_eq_true] at hb
    simp only [den, vbelEs_den h σ a hb.1, vbelEs_den h σ c hb.2]
  | .iface _ v, hb => by
    simp only [vbelE] at hb
    simp only [den, vbelE_den h σ v hb]
  | .agg cs, hb => by
    simp only [vbelE] at hb
    simp only [den, vbelEs_den h σ cs hb]
  | .tup cs, hb => by
    simp only [vbelE] at hb
    simp only [den, vbelEs_den h σ cs hb]
  | .str _, _ | .nilp, _ | .ptr _ _, _ | .nils, _ | .slice _ _ _ _, _ | .nilm, _ | .map _, _ | .nilf, _ | .nili, _ => by simp only [den]
theorem vbelEs_den {ρ ρ' : Nat → Int} {n : Nat} (h : Agr n ρ ρ') (σ : List (Nat × Nat)) : ∀ (l : List V), vbelEs n l = true → denL ρ σ l = denL ρ' σ l
  | [], _ => by simp only [denL]
  | v :: l, hb => by
    simp only [vbelEs, Bool.and_eq_true] at hb
    simp only [denL, vbelE_den h σ v hb.1, vbelEs_den h σ l hb.2]
end
theorem ptAll_get {q : V → Bool} {t : PT V} {i : Nat} {v : V} (h : ptAll q t = true) (hv : t.get i = some v) : q v = true := by
  induction t generalizing i with
  | e => rw [PT.get_e] at hv; cases hv
  | n x l r ihl ihr =>
    simp only [ptAll, Bool.and_eq_true] at h
    obtain ⟨⟨h1, h2⟩, h3⟩ := h
    rcases Nat.lt_trichotomy i 0 with h0 | h0 | h0
    · omega
    · subst h0
      rw [PT.get_0] at hv
      subst hv
      exact h1
    · rcases Nat.mod_two_eq_zero_or_one i with hm | hm
      · obtain ⟨k, rfl⟩ : ∃ k, i = 2 * k + 2 := ⟨i / 2 - 1, by omega⟩
        rw [PT.get_r] at hv
        exact ihr h3 hv
      · obtain ⟨k, rfl⟩ : ∃ k, i = 2 * k + 1 := ⟨i / 2, by omega⟩
        rw [PT.get_l] at hv
        exact ihl h2 hv
/-- at a loop's head -/
theorem head_ok {sp : LS} {N : Nat} (hg : Gok ρ g) {g0 : G} (hN : g0.vs.length = N) (hpc : ∀ b t, (b, t) ∈ g0.pc → belB N b = true → b.val ρ = t) (hpre : ∀ i lo hi, nthI g0.vs i = some (lo, hi) → lo ≤ ρ i ∧ ρ i ≤ hi) (hng : g.ng = g0.ng) (hh : headB sp N p g st = some s) (hT : RT ρ σ g.ng st.n st.tm a) (hM : RM ρ S w0 σ st.mem w) :
    Gok (subV ρ s) (gOf sp g0) ∧ RT (subV ρ s) (σ.take p.bs.length) (gOf sp g0).ng p.st.n p.st.tm a ∧ RM (subV ρ s) S w0 (σ.take p.bs.length) p.st.mem w := by
  unfold headB at hh
  split at hh
  · rename_i s' hs
    split at hh
    · rename_i hc
      cases hh
      simp only [Bool.and_eq_true] at hc
      obtain ⟨⟨⟨h0, h1⟩, h2⟩, h3⟩ := hc
      have hhi := lookS_hi hs (Nat.le_of_ble_eq_true h0)
      obtain ⟨k1, k2⟩ := inst_ok hg hhi h3 hT hM
      refine ⟨⟨?_, ?_⟩, by rw [show (gOf sp g0).ng = g.ng from hng.symm]; exact k1, k2⟩
      · intro i lo hi hi'
        have hi' : nthI (g0.vs ++ sp.vars.map (·.2)) i = some (lo, hi) := hi'
        rw [nthI_app] at hi'
        split at hi'
        · rename_i hlt
          have : subV ρ s i = ρ i := by unfold subV; rw [lookS_of hs i (by omega)]
          rw [this]
          exact hpre i lo hi hi'
        · rename_i hge
          have := ranges_ok hg h1 (i - g0.vs.length) lo hi hi'
          rwa [show N + (i - g0.vs.length) = i by omega] at this
      · intro b t hm
        rcases List.mem_append.1 hm with hm | hm
        · exact facts_ok hg hhi h2 b t hm
        · obtain ⟨h5, h6⟩ := keepPc_mem hm
          subst hN
          rw [← hpc b t h5 h6]
          refine belB_val (fun j hj => ?_) b h6
          rcases hj with hj | hj
          · unfold subV; rw [lookS_of hs j hj]
          · unfold subV; rw [hhi j hj]
    · cases hh
  · cases hh
theorem below_val {ρ ρ' : Nat → Int} {n : Nat} (h : ∀ i, i < n → ρ i = ρ' i) : ∀ (e : E), belowE n e = true → e.val ρ = e.val ρ'
  | .v i, hb => h i (by simpa [belowE] using hb)
  | .c _, _ => rfl
  | .bin o k a b, hb => by
    simp only [belowE, Bool.and_eq_true] at hb
    simp only [E.val, below_val h a hb.1, below_val h b hb.2]
  | .wrap k a, hb => by
    simp only [belowE] at hb
    simp only [E.val, below_val h a hb]
  | .ld _ _ _, hb => by cases hb
theorem hiOf {sp : LS} {N : Nat} (hh : headB sp N p g st = some s) : Hi s := by
  unfold headB at hh
  split at hh
  · rename_i s' hs
    split at hh
    · rename_i hc
      cases hh
      simp only [Bool.and_eq_true] at hc
      exact lookS_hi hs (Nat.le_of_ble_eq_true hc.1.1.1)
    · cases hh
  · cases hh
/-- what is owed behind a text -/
def OutK (S : List Nat) (w0 : World) (K : G → Ex → St → Bool) (g0 : G) (ρ0 : Nat → Int) (σ0 : List (Nat × Nat)) (Q : Exit → Act → World → Prop) : Prop :=
  ∀ ρ g e st τ a w, K g e st = true → Gok ρ g → g.ng = g0.ng → (∃ x, g.vs = g0.vs ++ x) → Agr g0.vs.length ρ ρ0 → RT ρ (σ0 ++ τ) g.ng st.n st.tm a → RM ρ S w0 (σ0 ++ τ) st.mem w → ExR ρ (σ0 ++ τ) Q a w e
/-- .. behind a call -/
def OutC (S : List Nat) (w0 : World) (K : G → V → Mem → Bool) (g0 : G) (ρ0 : Nat → Int) (σ0 : List (Nat × Nat)) (R : Ending → World → Prop) : Prop :=
  ∀ ρ g v m τ w, K g v m = true → Gok ρ g → g.ng = g0.ng → (∃ x, g.vs = g0.vs ++ x) → Agr g0.vs.length ρ ρ0 → RM ρ S w0 (σ0 ++ τ) m w → ∀ x, den ρ (σ0 ++ τ) v = some x → R (.returned x) w
def ClOk (P : Program) (cl : Cl) : Prop := ∀ (g : G) (f : FuncId) (args : List V) (m : Mem) (K : G → V → Mem → Bool) (ρ : Nat → Int) (σ : List (Nat × Nat)) (S : List Nat) (w0 w : World) (xs : List Value) (R : Ending → World → Prop),
  cl g f args m K = true → Gok ρ g → Globs σ g.ng → RM ρ S w0 σ m w → denL ρ σ args = some xs → OutC S w0 K g ρ σ R → Calls P f xs.toArray w R
theorem Agr.refl (n : Nat) (ρ : Nat → Int) : Agr n ρ ρ := fun _ _ => rfl
theorem Agr.trans {n n' : Nat} {ρ ρ' ρ2 : Nat → Int} (h : Agr n' ρ2 ρ') (h2 : Agr n ρ' ρ) (hn : n ≤ n') : Agr n ρ2 ρ := fun i hi => (h i (hi.imp (fun h => Nat.lt_of_lt_of_le h hn) id)).trans (h2 i hi)
theorem len_pre {α : Type} {l l' x : List α} (h : l' = l ++ x) : l.length ≤ l'.length := by subst h; simp
/-- what is owed is owed behind more, too -/
theorem OutK.later {K : G → Ex → St → Bool} {g0 g1 : G} {ρ0 ρ1 : Nat → Int} {σ0 : List (Nat × Nat)} {τ : List (Nat × Nat)} {Q : Exit → Act → World → Prop} (h : OutK S w0 K g0 ρ0 σ0 Q) (hn : g1.ng = g0.ng) (hv : ∃ x, g1.vs = g0.vs ++ x) (ha : Agr g0.vs.length ρ1 ρ0) : OutK S w0 K g1 ρ1 (σ0 ++ τ) Q := by
  intro ρ2 g2 e st τ2 a w hk hg hn2 hv2 ha2 hT hM
  obtain ⟨x1, e1⟩ := hv
  obtain ⟨x2, e2⟩ := hv2
  rw [List.append_assoc] at hT hM ⊢
  exact h ρ2 g2 e st _ a w hk hg (hn2.trans hn) ⟨x1 ++ x2, by rw [e2, e1, List.append_assoc]⟩ (ha2.trans ha (len_pre e1)) hT hM
/-- one text behind another -/
theorem OutK.nor {L : G → St → Bool} {K : G → Ex → St → Bool} {ρ : Nat → Int} {g : G} {σ : List (Nat × Nat)} {Q : Exit → Act → World → Prop} {X : Act → World → Prop} (hK : OutK S w0 K g ρ σ Q)
    (hL : ∀ ρ' g' st' τ a' w', L g' st' = true → Gok ρ' g' → g'.ng = g.ng → (∃ x, g'.vs = g.vs ++ x) → Agr g.vs.length ρ' ρ → RT ρ' (σ ++ τ) g'.ng st'.n st'.tm a' → RM ρ' S w0 (σ ++ τ) st'.mem w' → X a' w') : OutK S w0 (norK L K) g ρ σ (Exit.then X Q) := by
  intro ρ' g' e st' τ a' w' hk hg' hn' hv' hag' hT' hM'
  cases e with
  | nor => exact hL ρ' g' st' τ a' w' hk hg' hn' hv' hag' hT' hM'
  | exit n => exact hK ρ' g' (.exit n) st' τ a' w' hk hg' hn' hv' hag' hT' hM'
  | ret => exact hK ρ' g' .ret st' τ a' w' hk hg' hn' hv' hag' hT' hM'
  | pan v => exact hK ρ' g' (.pan v) st' τ a' w' hk hg' hn' hv' hag' hT' hM'
theorem leaf_ok (hx : ∀ ρ, CodeOk P H ρ k) {K : G → Ex → St → Bool} {Q : Exit → Act → World → Prop} {c : Code} {g : G} (ht : ((machine P H k).code g c st).allG (fun g x => K g x.1 x.2) g = true) (hg : Gok ρ g) (hT : RT ρ σ g.ng st.n st.tm a) (hM : RM ρ S w0 σ st.mem w) (hK : OutK S w0 K g ρ σ Q) : c.wp P Q a w := by
  refine hx ρ g.ng g c st S w0 σ a w Q hg rfl hT hM (T.all_mono ?_ (allG_ok ht hg))
  rintro ⟨e, st'⟩ ⟨g', hg', hn', hv', hk⟩ τ a' w' hT' hM'
  exact hK ρ g' e st' τ a' w' hk hg' hn' ⟨[], by rw [hv']; simp⟩ (Agr.refl _ _) (by rw [hn']; exact hT') hM'
theorem wpList_one {ops : Array Oper} {Q : Exit → Act → World → Prop} {rest : List Oper} {o : Oper} {a : Act} {w : World} (h : wpList P ops (Exit.then (wpList P ops Q rest) Q) [o] a w) : wpList P ops Q (o :: rest) a w := by
  unfold wpList at h ⊢
  split at h
  · rename_i hw
    rw [if_pos hw]
    rcases h with h | h
    · refine .inl ?_
      revert h
      unfold Oper.wp
      generalize (execOp a.eval o).run P w = r
      intro h
      cases r with
      | ok x w' =>
        cases x with
        | enter f args =>
          rw [Oper.upon_enter] at h ⊢
          refine h.mono ?_
          intro e w2 he
          cases e <;> exact he
        | row r args =>
          rw [Oper.upon_row] at h ⊢
          exact h
        | _ => exact h
      | halt x w' => cases x <;> exact h
    · exact .inr ⟨h.1, h.2⟩
  · rename_i hw
    rw [if_neg hw]
    exact h
theorem topL_ok (hl : ∀ ρ, ListOk P H ρ k) {cl : Cl} (hcl : ClOk P cl) {inl : FuncId → Bool} (ops : Array Oper) {Q : Exit → Act → World → Prop} : ∀ (l : List Oper) (g : G) (st : St) (K : G → Ex → St → Bool) (ρ : Nat → Int) (σ : List (Nat × Nat)) (a : Act) (w : World),
    topL (machine P H k) P cl inl ops.toList l g st K = true → Gok ρ g → RT ρ σ g.ng st.n st.tm a → RM ρ S w0 σ st.mem w → OutK S w0 K g ρ σ Q → wpList P ops Q l a w
  | [], g, st, K, ρ, σ, a, w, h, hg, hT, hM, hK => by
    have := hK ρ g .nor st [] a w h hg rfl ⟨[], by simp⟩ (Agr.refl _ _) (by simpa using hT) (by simpa using hM)
    exact this
  | o :: rest, g, st, K, ρ, σ, a, w, h, hg, hT, hM, hK => by
    simp only [topL] at h
    split at h
    · refine wpList_one ?_
      have := hl ρ g.ng g ops.toList [o] st S w0 σ a w (Exit.then (wpList P ops Q rest) Q) hg rfl hT hM (T.all_mono ?_ (allG_ok h hg))
      · simpa using this
      · rintro ⟨e, st'⟩ ⟨g', hg', hn', hv', hk⟩ τ a' w' hT' hM'
        refine (OutK.nor hK ?_) ρ g' e st' τ a' w' hk hg' hn' ⟨[], by rw [hv']; simp⟩ (Agr.refl _ _) (by rw [hn']; exact hT') hM'
        intro ρ2 g2 st2 τ2 a2 w2 hk2 hg2 hn2 hv2 ha2 hT2 hM2
        exact topL_ok hl hcl ops rest g2 st2 K ρ2 _ a2 w2 hk2 hg2 hT2 hM2 (hK.later hn2 hv2 ha2)
    · split at h
      · rename_i hw
        unfold wpList
        rw [if_neg (by have := wanted_no hT hw; simp only [Array.toArray_toList] at this; rw [this]; decide)]
        exact topL_ok hl hcl ops rest g (st.res o.dst .undef) K ρ σ _ w h hg (hT.put rfl) hM hK
      · rename_i hw
        split at h
        · cases h
        · rename_i hb
          simp only [Bool.and_eq_true] at hb
          obtain ⟨hb1, hb2⟩ := hb
          unfold wpList
          rw [if_pos (by have := wanted_yes hT hw; simpa only [Array.toArray_toList] using this)]
          refine .inl ?_
          obtain ⟨r, ⟨g', hg', hn', hv', hr⟩, hres⟩ := xpure_sound hg hT (allG_ok h hg)
          have hres := hres S w0 w hM
          unfold Oper.wp
          cases r with
          | enter f args =>
            obtain ⟨xs, hx, hrun⟩ := hres
            rw [hrun]
            refine hcl g' f args st.mem _ ρ σ S w0 w xs _ hr hg' (by rw [hn']; exact hT.glob) hM hx ?_
            intro ρ2 g2 v m2 τ w2 hk2 hg2 hn2 hv2 ha2 hM2 x hx2
            have hv3 : ∃ x, g2.vs = g.vs ++ x := by rw [hv'] at hv2; exact hv2
            have ha3 : Agr g.vs.length ρ2 ρ := by rw [hv'] at ha2; exact ha2
            have hT2 : RT ρ2 (σ ++ τ) g2.ng st.n st.tm a := by
              refine ⟨hT.size, ?_, ?_, ?_⟩
              · intro i u hu
                rw [vbelE_den ha3 _ u (ptAll_get hb1 hu)]
                exact den_pre _ _ _ _ _ (hT.get i u hu)
              · have hd := hT.defers
                cases hds : st.tm.ds with
                | nil =>
                  rw [hds] at hd
                  obtain ⟨ys, e1, e2⟩ := hd
                  rw [denL_nil] at e1
                  cases e1
                  simp only [defsOf, Option.some.injEq] at e2
                  rw [← e2]; exact DefR.nil
                | cons d ds => rw [hds] at hb2; cases hb2
              · intro i hi
                rw [hn2, hn'] at hi
                obtain ⟨c, hc⟩ := hT.glob i hi
                exact ⟨c, get_pre hc⟩
            exact topL_ok hl hcl ops rest g2 (st.resM o.dst v m2) K ρ2 _ _ w2 hk2 hg2 (hT2.put hx2) hM2 (hK.later (hn2.trans hn') hv3 ha3)
          | v v => cases hr
          | pan v => cases hr
          | defer d => cases hr
      · cases h
/-- a loop's state ahead of a round -/
def LoopS (P : Program) (c : Code) (Q : Exit → Act → World → Prop) (a : Act) (w : World) : Prop := ∀ b k cs, ∃ e a' w', Q e a' w' ∧ Arrives P (lone (b.at a (.code c :: .inLoop c :: k)) cs w) b k cs e a' w'
theorem loopS_once {c : Code} {Q : Exit → Act → World → Prop} {a : Act} {w : World} (h : c.wp P (Exit.then (LoopS P c Q) Q) a w) : LoopS P c Q a w := by
  intro b k cs
  obtain ⟨e, a₁, w₁, hq, harr⟩ := h b (.inLoop c :: k) cs
  cases e with
  | normal =>
    obtain ⟨e₂, a₂, w₂, hq₂, harr₂⟩ := hq b k cs
    exact ⟨e₂, a₂, w₂, hq₂, .of_steps (Steps.trans harr (.one step_inLoop)) harr₂⟩
  | exit id => exact ⟨_, a₁, w₁, hq, .pass (x := .inLoop c) rfl (fun _ _ => .inl (by simp)) harr⟩
  | goto l => exact ⟨_, a₁, w₁, hq, .pass (x := .inLoop c) rfl (fun _ _ => .inl (by simp)) harr⟩
  | ret => exact ⟨_, a₁, w₁, hq, .pass (x := .inLoop c) rfl (fun _ _ => .inl (by simp)) harr⟩
  | panic ch => exact ⟨_, a₁, w₁, hq, .pass (x := .inLoop c) rfl (fun _ _ => .inl (by simp)) harr⟩
  | outgrown => exact ⟨_, a₁, w₁, hq, .pass (x := .inLoop c) rfl (fun _ _ => .inl (by simp)) harr⟩
theorem LoopS.wp {c : Code} {Q : Exit → Act → World → Prop} {a : Act} {w : World} (h : LoopS P c Q a w) : (Code.loop c).wp P Q a w := by
  intro b k cs
  obtain ⟨e, a', w', hq, harr⟩ := h b k cs
  exact ⟨e, a', w', hq, .of_steps (.one step_loop) harr⟩
theorem loopS_rounds {c : Code} {Q : Exit → Act → World → Prop} : ∀ (n : Nat) {a : Act} {w : World}, Code.rounds P c Q n a w → LoopS P c Q a w
  | 0, _, _, h => h.elim
  | n + 1, a, w, h => loopS_once (Code.wp_mono (fun e a w q => by
      cases e with
      | normal => exact loopS_rounds n q
      | _ => exact q) h)
theorem top_ok (hx : ∀ ρ, CodeOk P H ρ k) (hl : ∀ ρ, ListOk P H ρ k) {cl : Cl} (hcl : ClOk P cl) {inl : FuncId → Bool} {spec : Nat → Option LS} : ∀ (c : Code) (i : Nat) (g : G) (st : St) (K : G → Ex → St → Bool) (Q : Exit → Act → World → Prop) (ρ : Nat → Int) (σ : List (Nat × Nat)) (a : Act) (w : World),
    top (machine P H k) P cl inl spec c i g st K = true → Gok ρ g → RT ρ σ g.ng st.n st.tm a → RM ρ S w0 σ st.mem w → OutK S w0 K g ρ σ Q → c.wp P Q a w := by
  intro c
  induction c with
  | seq x y ihx ihy =>
    intro i g st K Q ρ σ a w h hg hT hM hK
    simp only [top] at h
    split at h
    · exact leaf_ok hx h hg hT hM hK
    · refine wp_seq ?_
      refine ihx i g st _ _ ρ σ a w h hg hT hM (OutK.nor hK ?_)
      intro ρ' g' st' τ a' w' hk hg' hn' hv' hag' hT' hM'
      exact ihy i g' st' K Q ρ' _ a' w' hk hg' hT' hM' (hK.later hn' hv' hag')
  | block n x ih =>
    intro i g st K Q ρ σ a w h hg hT hM hK
    simp only [top] at h
    split at h
    · exact leaf_ok hx h hg hT hM hK
    · refine wp_block ?_
      refine ih n g st _ _ ρ σ a w h hg hT hM ?_
      intro ρ' g' e st' σ' a' w' hk hg' hn' hv' hag' hT' hM'
      cases e with
      | nor => exact hK ρ' g' .nor st' σ' a' w' hk hg' hn' hv' hag' hT' hM'
      | exit n' =>
        simp only [blockK] at hk
        show (if n' = n then Q .normal a' w' else Q (.exit n') a' w')
        split at hk
        · rename_i hb
          rw [if_pos (Nat.eq_of_beq_eq_true hb)]
          exact hK ρ' g' .nor st' σ' a' w' hk hg' hn' hv' hag' hT' hM'
        · rename_i hb
          rw [if_neg (fun e => by subst e; simp at hb)]
          exact hK ρ' g' (.exit n') st' σ' a' w' hk hg' hn' hv' hag' hT' hM'
      | ret => exact hK ρ' g' .ret st' σ' a' w' hk hg' hn' hv' hag' hT' hM'
      | pan v => exact hK ρ' g' (.pan v) st' σ' a' w' hk hg' hn' hv' hag' hT' hM'
  | loop x ih =>
    intro i g st K Q ρ σ a w h hg hT hM hK
    simp only [top] at h
    split at h
    · exact leaf_ok hx h hg hT hM hK
    · rename_i sp hsp
      refine LoopS.wp ?_
      have inv : ∀ (g : G) (st : St) (ρ : Nat → Int) (σ : List (Nat × Nat)) (a : Act) (w : World), loopT (fun g st K => top (machine P H k) P cl inl spec x i g st K) sp x g st K = true → Gok ρ g → RT ρ σ g.ng st.n st.tm a → RM ρ S w0 σ st.mem w → OutK S w0 K g ρ σ Q → LoopS P x Q a w := by
        intro g st ρ σ a w h hg hT hM hK
        simp only [loopT] at h
        split at h
        · cases h
        · rename_i s hs
          simp only [Bool.and_eq_true] at h
          obtain ⟨⟨hbel1, hbel2⟩, h⟩ := h
          have hbl : (tpOf sp g.vs.length x st).bs.length = σ.length := by
            rw [hM.len]
            have : ∀ (sp : LS) (N : Nat) (m : Mem) (n b : Nat), (blksOf sp N m n b).length = n := by
              intro sp N m n
              induction n with
              | zero => intro b; rfl
              | succ n ih => intro b; simp only [blksOf, List.length_cons, ih]
            exact this _ _ _ _ _
          generalize tpOf sp g.vs.length x st = p at h hs hbl
          obtain ⟨k1, k2, k3⟩ := head_ok hg rfl (fun b t hm _ => hg.pc b t hm) hg.vs rfl hs hT hM
          have tk : ∀ τ : List (Nat × Nat), (σ ++ τ).take p.bs.length = σ := fun τ => by rw [hbl]; simp
          have tk0 : σ.take p.bs.length = σ := by rw [hbl]; simp
          rw [tk0] at k2 k3
          have sub0 : ∀ {q : Tp} {g' : G} {st' : St} {s' : List (Nat × E)} (ρ' : Nat → Int), headB sp g.vs.length q g' st' = some s' → Agr g.vs.length (subV ρ' s') ρ' := by
            intro q g' st' s' ρ' hh j hj
            have hhi := hiOf hh
            unfold headB at hh
            split at hh
            · rename_i s2 hs2
              split at hh
              · cases hh
                rcases hj with hj | hj
                · unfold subV; rw [lookS_of hs2 j hj]
                · unfold subV; rw [hhi j hj]
              · cases hh
            · cases hh
          have rounds : ∀ (m : Nat) (ρ' : Nat → Int) (a' : Act) (w' : World), (sp.falls.2.val ρ' - sp.falls.1.val ρ').toNat ≤ m → Agr g.vs.length ρ' ρ → Gok ρ' (gOf sp g) → RT ρ' σ (gOf sp g).ng p.st.n p.st.tm a' → RM ρ' S w0 σ p.st.mem w' → Code.rounds P x Q (m + 1) a' w' := by
            have hvs : (gOf sp g).vs = g.vs ++ sp.vars.map (·.2) := rfl
            have step : ∀ (m : Nat) (ρ' : Nat → Int), (sp.falls.2.val ρ' - sp.falls.1.val ρ').toNat ≤ m → Agr g.vs.length ρ' ρ →
                (∀ (ρ2 : Nat → Int) (a2 : Act) (w2 : World), (sp.falls.2.val ρ2 - sp.falls.1.val ρ2).toNat < m → Agr g.vs.length ρ2 ρ → Gok ρ2 (gOf sp g) → RT ρ2 σ (gOf sp g).ng p.st.n p.st.tm a2 → RM ρ2 S w0 σ p.st.mem w2 → Code.rounds P x Q m a2 w2) →
                OutK S w0 (backB sp g.vs.length p K) (gOf sp g) ρ' σ (Exit.then (Code.rounds P x Q m) Q) := by
              intro m ρ' hm hag ihm ρ2 g2 e2 st2 σ2 a2 w2 hk2 hg2 hn2 hv2 hag2 hT2 hM2
              obtain ⟨x2, e2'⟩ := hv2
              have hvx : g2.vs = g.vs ++ (sp.vars.map (·.2) ++ x2) := by rw [e2', hvs, List.append_assoc]
              have hv3 : ∃ x, g2.vs = g.vs ++ x := ⟨_, hvx⟩
              have hag3 : Agr g.vs.length ρ2 ρ := hag2.trans hag (by rw [hvs]; simp)
              cases e2 with
              | nor =>
                simp only [backB] at hk2
                split at hk2
                · rename_i s2 hs2
                  simp only [Bool.and_eq_true] at hk2
                  have h1 := lessX_ok (ρ := ρ2) hk2.1
                  simp only [E.val, EO.val] at h1
                  rw [subst_val (hiOf hs2), subst_val (hiOf hs2)] at h1
                  have h2 : sp.falls.1.val ρ2 < sp.falls.2.val ρ2 := of_decide_eq_true (dec_ok hg2 _ _ (isT_ok hk2.2))
                  have h3 := below_val (fun j hj => hag2 j (.inl (by rw [hvs]; simpa using hj))) sp.falls.1 hbel1
                  have h4 := below_val (fun j hj => hag2 j (.inl (by rw [hvs]; simpa using hj))) sp.falls.2 hbel2
                  obtain ⟨q1, q2, q3⟩ := head_ok (g0 := g) (N := g.vs.length) hg2 rfl (fun b t hm hb => by rw [belB_val hag3 b hb]; exact hg.pc b t hm) (fun j lo hi hj => hg2.vs j lo hi (by rw [hvx, nthI_app, if_pos (nthI_lt hj)]; exact hj)) hn2 hs2 hT2 hM2
                  rw [tk σ2] at q2 q3
                  exact ihm (subV ρ2 s2) a2 w2 (by omega) ((sub0 ρ2 hs2).trans hag3 (Nat.le_refl _)) q1 q2 q3
                · cases hk2
              | exit n => exact hK ρ2 g2 (.exit n) st2 σ2 a2 w2 hk2 hg2 hn2 hv3 hag3 hT2 hM2
              | ret => exact hK ρ2 g2 .ret st2 σ2 a2 w2 hk2 hg2 hn2 hv3 hag3 hT2 hM2
              | pan v => exact hK ρ2 g2 (.pan v) st2 σ2 a2 w2 hk2 hg2 hn2 hv3 hag3 hT2 hM2
            intro m
            induction m with
            | zero =>
              intro ρ' a' w' hm hag hg' hT' hM'
              exact ih i (gOf sp g) p.st _ _ ρ' σ a' w' h hg' hT' hM' (step 0 ρ' hm hag (fun _ _ _ hlt => absurd hlt (Nat.not_lt_zero _)))
            | succ m ihm =>
              intro ρ' a' w' hm hag hg' hT' hM'
              exact ih i (gOf sp g) p.st _ _ ρ' σ a' w' h hg' hT' hM' (step (m + 1) ρ' hm hag (fun ρ2 a2 w2 hlt hag2 q1 q2 q3 => ihm ρ2 a2 w2 (by omega) hag2 q1 q2 q3))
          exact loopS_rounds _ (rounds _ (subV ρ s) a w (Nat.le_refl _) (sub0 ρ hs) k1 k2 k3)
      have peel : ∀ (n : Nat) (g : G) (st : St) (ρ : Nat → Int) (σ : List (Nat × Nat)) (a : Act) (w : World), peelT (fun g st K => top (machine P H k) P cl inl spec x i g st K) (fun g st K => loopT (fun g st K => top (machine P H k) P cl inl spec x i g st K) sp x g st K) n g st K = true → Gok ρ g → RT ρ σ g.ng st.n st.tm a → RM ρ S w0 σ st.mem w → OutK S w0 K g ρ σ Q → LoopS P x Q a w := by
        intro n
        induction n with
        | zero => intro g st ρ σ a w h hg hT hM hK; exact inv g st ρ σ a w h hg hT hM hK
        | succ n ihn =>
          intro g st ρ σ a w h hg hT hM hK
          refine loopS_once (ih i g st _ _ ρ σ a w h hg hT hM (OutK.nor hK ?_))
          intro ρ' g' st' τ a' w' hk hg' hn' hv' hag' hT' hM'
          exact ihn g' st' ρ' _ a' w' hk hg' hT' hM' (hK.later hn' hv' hag')
      exact peel _ g st ρ σ a w h hg hT hM hK
  | cond x y z ihy ihz =>
    intro i g st K Q ρ σ a w h hg hT hM hK
    simp only [top] at h
    split at h
    · exact leaf_ok hx h hg hT hM hK
    · split at h
      · rename_i hv
        exact wp_cond_true (den_bool (ev_den hT hv)) (ihy i g st K Q ρ σ a w h hg hT hM hK)
      · rename_i hv
        exact wp_cond_false (den_bool (ev_den hT hv)) (ihz i g st K Q ρ σ a w h hg hT hM hK)
      · rename_i p hv
        split at h
        · rename_i _ t _
          have hev := den_bool (ev_den hT hv)
          have hK2 : ∀ b : Bool, OutK S w0 K (g.add p b) ρ σ Q := fun b => hK
          split at h
          · rename_i hd
            have hp := dec_ok hg _ _ hd
            exact wp_cond_true (by rw [hev]; simp only [DB.val, hp]) (ihy i g (refine st t true) K Q ρ σ a w h hg (hT.refine hv hp) hM hK)
          · rename_i hd
            have hp := dec_ok hg _ _ hd
            exact wp_cond_false (by rw [hev]; simp only [DB.val, hp]) (ihz i g (refine st t false) K Q ρ σ a w h hg (hT.refine hv hp) hM hK)
          · simp only [Bool.and_eq_true] at h
            cases hp : p.val ρ with
            | true => exact wp_cond_true (by rw [hev]; simp only [DB.val, hp]) (ihy i (g.add p true) (refine st t true) K Q ρ σ a w h.1 (hg.add hp) (hT.refine hv hp) hM (hK2 true))
            | false => exact wp_cond_false (by rw [hev]; simp only [DB.val, hp]) (ihz i (g.add p false) (refine st t false) K Q ρ σ a w h.2 (hg.add hp) (hT.refine hv hp) hM (hK2 false))
        · cases h
      · cases h
  | region id ops d =>
    intro i g st K Q ρ σ a w h hg hT hM hK
    simp only [top] at h
    split at h
    · exact leaf_ok hx h hg hT hM hK
    · rename_i hb
      simp only [hasLoop, Bool.and_eq_true] at hb
      cases d with
      | true => cases hb.1
      | false => exact wp_region_list (topL_ok hl hcl ops ops.toList g st K ρ σ a w h hg hT hM hK)
  | skip => intro i g st K Q ρ σ a w h hg hT hM hK; exact leaf_ok hx h hg hT hM hK
  | rangeFunc _ _ _ _ => intro i g st K Q ρ σ a w h hg hT hM hK; exact leaf_ok hx h hg hT hM hK
  | exit _ => intro i g st K Q ρ σ a w h hg hT hM hK; exact leaf_ok hx h hg hT hM hK
  | scope _ => intro i g st K Q ρ σ a w h hg hT hM hK; exact leaf_ok hx h hg hT hM hK
  | label _ => intro i g st K Q ρ σ a w h hg hT hM hK; exact leaf_ok hx h hg hT hM hK
  | goto _ => intro i g st K Q ρ σ a w h hg hT hM hK; exact leaf_ok hx h hg hT hM hK
  | ret => intro i g st K Q ρ σ a w h hg hT hM hK; exact leaf_ok hx h hg hT hM hK
  | refuse _ => intro i g st K Q ρ σ a w h hg hT hM hK; exact leaf_ok hx h hg hT hM hK
theorem topD_ok (hm : P.follows .mixedOrders = true) (hH : ∀ ρ, HookOk P H ρ) {specs : FuncId → Option (Nat → Option LS)} : ∀ d, ClOk P (topD P H k specs d)
  | 0 => fun _ _ _ _ _ _ _ _ _ _ _ _ h => by cases h
  | d + 1 => by
    intro g f args m K ρ σ S w0 w xs R h hg hgl hM hargs hK
    simp only [topD] at h
    split at h
    · cases h
    rename_i spec hspec
    split at h
    · cases h
    rename_i fn hf
    have hf := fn_eq hf
    split at h
    · cases h
    rename_i c hb
    rw [forceN_eq] at h
    refine calls_of_wp hf hb ?_
    have hT := frame0 hgl hargs fn
    refine top_ok (fun ρ => (all_okH hm (hH ρ) k).2.1) (fun ρ => (all_okH hm (hH ρ) k).2.2.1) (topD_ok hm hH d) c 0 g _ (finK P fn K) _ ρ σ _ w h hg hT hM ?_
    intro ρ' g' e st' τ a' w' hk hg' hn' hv' hag' hT' hM'
    have fin : ∀ (hk : (match st'.tm.ds with
        | [] => match resultV P fn st'.tm st'.mem with
          | some v => K g' v st'.mem
          | none => false
        | _ :: _ => false) = true), a'.defers = [] ∧ ∃ v, (results fn a'.tmps).run P w' = .ok v w' ∧ R (.returned v) w' := by
      intro hk
      have hD := hT'.defers
      split at hk
      · rename_i hds
        rw [hds] at hD
        obtain ⟨ys, e1, e2⟩ := hD
        rw [denL_nil] at e1
        cases e1
        simp only [defsOf, Option.some.injEq] at e2
        split at hk
        · rename_i v hv
          obtain ⟨x, hx, hr⟩ := resultV_run hT' hM' hv
          exact ⟨e2.symm, x, hr, hK ρ' g' v st'.mem τ w' hk hg' hn' hv' hag' hM' x hx⟩
        · cases hk
      · cases hk
    cases e with
    | nor => exact fin hk
    | ret => exact fin hk
    | pan v => cases hk
    | exit n => cases hk
theorem topCall_ok (hm : P.follows .mixedOrders = true) (hH : ∀ ρ, HookOk P H ρ) {d : Nat} {specs : FuncId → Option (Nat → Option LS)} {g : G} {f : FuncId} {args : List V} {m : Mem} {xs : List Value} (h : topCall P H k d specs g f args m = true) (hg : Gok ρ g) (hgl : Globs σ g.ng) (hM : RM ρ [] w σ m w) (hargs : denL ρ σ args = some xs) :
    Calls P f xs.toArray w fun e w' => e = .returned (.bool true) ∧ Below w.heap.size w w' := by
  refine topD_ok hm hH d g f args m isTrueV ρ σ [] w w xs _ h hg hgl hM hargs ?_
  intro ρ' g' v m' τ w' hk _ _ _ _ hM' x hx
  cases v with
  | bool b =>
    cases b with
    | s b =>
      simp only [isTrueV] at hk
      subst hk
      cases (den_bool hx)
      exact ⟨rfl, hM'.fr.below⟩
    | d b => cases hk
  | _ => cases hk
end
end Go.Proofs.YtkljleenmmeneaaGreatDoor.Sy
