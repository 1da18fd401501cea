/- The evaluator over memory known by name is sound: calls, statements, regions. -/
import Derived.Test.YthndnammnnallaaSymL
import Derived.LoopN
import Derived.Control
import Derived.Recover
namespace Go.Proofs.Ythndnammnnallaa.Sy
open Go.RowKit

/-- what a function ends with -/
def FinR (ρ : Nat → Int) (σ : List (Nat × Nat)) (R : Ending → World → Prop) (w : World) : Fin → Prop
  | .ret v => ∀ x, den ρ σ v = some x → R (.returned x) w
  | .pan v => ∀ x, den ρ σ v = some x → R (.panicked [{ v := x, recovered := false }]) w
/-- what a statement ends with -/
def ExR (ρ : Nat → Int) (σ : List (Nat × Nat)) (Q : Exit → Act → World → Prop) (a : Act) (w : World) : Ex → Prop
  | .nor => Q .normal a w
  | .exit n => Q (.exit n) a w
  | .ret => Q .ret a w
  | .pan v => ∀ x, den ρ σ v = some x → Q (.panic [{ v := x, recovered := false }]) a w

/-- the first names are the program's variables -/
def Globs (σ : List (Nat × Nat)) (ng : Nat) : Prop := ∀ i, i < ng → ∃ c, σ[i]? = some (i, c)
def CallOk (P : Program) (H : Hook) (ρ : Nat → Int) (k : Nat) : Prop := ∀ (g : G) (f : FuncId) (args : List V) (m : Mem) (xs : List Value) (S : List Nat) (w0 : World) (σ : List (Nat × Nat)) (w : World) (R : Ending → World → Prop),
  Gok ρ g → Globs σ g.ng → RM ρ S w0 σ m w → denL ρ σ args = some xs → ((machine P H k).call g f args m).all ρ (fun r => ∀ τ w', RM ρ S w0 (σ ++ τ) r.2 w' → FinR ρ (σ ++ τ) R w' r.1) → Calls P f xs.toArray w R
/-- what is owed of what comes behind a statement -/
def Out (ρ : Nat → Int) (ng : Nat) (S : List Nat) (w0 : World) (σ : List (Nat × Nat)) (Q : Exit → Act → World → Prop) (r : Ex × St) : Prop :=
  ∀ τ a' w', RT ρ (σ ++ τ) ng r.2.n r.2.tm a' → RM ρ S w0 (σ ++ τ) r.2.mem w' → ExR ρ (σ ++ τ) Q a' w' r.1
def CodeOk (P : Program) (H : Hook) (ρ : Nat → Int) (k : Nat) : Prop := ∀ (ng : Nat) (g : G) (c : Code) (st : St) (S : List Nat) (w0 : World) (σ : List (Nat × Nat)) (a : Act) (w : World) (Q : Exit → Act → World → Prop),
  Gok ρ g → g.ng = ng → RT ρ σ ng st.n st.tm a → RM ρ S w0 σ st.mem w → ((machine P H k).code g c st).all ρ (Out ρ ng S w0 σ Q) → c.wp P Q a w
def ListOk (P : Program) (H : Hook) (ρ : Nat → Int) (k : Nat) : Prop := ∀ (ng : Nat) (g : G) (ops rest : List Oper) (st : St) (S : List Nat) (w0 : World) (σ : List (Nat × Nat)) (a : Act) (w : World) (Q : Exit → Act → World → Prop),
  Gok ρ g → g.ng = ng → RT ρ σ ng st.n st.tm a → RM ρ S w0 σ st.mem w → ((machine P H k).list g ops rest st).all ρ (Out ρ ng S w0 σ Q) → wpList P ops.toArray Q rest a w

section
variable {S : List Nat} {w0 w w' : World} {ρ : Nat → Int} {ng : Nat} {σ : List (Nat × Nat)} {m m' : Mem} {P : Program} {n : Nat} {tm : TM} {a : Act} {o : Oper} {k : Nat} {H : Hook}

theorem Out.later {Q : Exit → Act → World → Prop} {r : Ex × St} (h : Out ρ ng S w0 σ Q r) (τ : List (Nat × Nat)) : Out ρ ng S w0 (σ ++ τ) Q r := by
  intro τ' a' w' hT hM
  rw [List.append_assoc] at hT hM ⊢
  exact h _ a' w' hT hM
theorem Out.here {Q : Exit → Act → World → Prop} {r : Ex × St} (h : Out ρ ng S w0 σ Q r) {a : Act} (hT : RT ρ σ ng r.2.n r.2.tm a) (hM : RM ρ S w0 σ r.2.mem w) : ExR ρ σ Q a w r.1 := by
  have := h [] a w (by simpa using hT) (by simpa using hM)
  simpa using this
theorem all_later {Q : Exit → Act → World → Prop} {t : T (Ex × St)} (h : t.all ρ (Out ρ ng S w0 σ Q)) (τ : List (Nat × Nat)) : t.all ρ (Out ρ ng S w0 (σ ++ τ) Q) := T.all_mono (fun _ hr => Out.later hr τ) h

theorem list_step (hc : CallOk P H ρ k) (hl : ListOk P H ρ k) : ListOk P H ρ (k + 1) := by
  intro ng g ops rest st S w0 σ a w Q hg hng hT hM h
  have h : (stepList P (machine P H k) g ops rest st).all ρ (Out ρ ng S w0 σ Q) := h
  cases rest with
  | nil =>
    unfold stepList at h
    exact Out.here (r := (.nor, st)) h hT hM
  | cons o rest =>
    unfold stepList at h
    split at h
    · rename_i hl0; cases hl0
    rename_i o' rest' hl0
    simp only [List.cons.injEq] at hl0
    obtain ⟨rfl, rfl⟩ := hl0
    split at h
    · cases h
    · rename_i hw
      unfold wpList
      rw [if_neg (by subst hng; rw [wanted_no hT hw]; decide)]
      exact hl ng g ops rest (st.res o.dst .undef) S w0 σ _ w Q hg hng (hT.put rfl) hM h
    · rename_i j b hw
      have hs := wanted_ask hw
      obtain ⟨ht, he⟩ := brG_all hg h
      cases hb : b.val ρ with
      | true =>
        obtain ⟨g', hg', hn', h2⟩ := ht hb
        exact hl ng g' ops (o :: rest) (refine st j true) S w0 σ a w Q hg' (hn'.trans hng) (by subst hng; exact hT.refine hs hb) hM h2
      | false =>
        obtain ⟨g', hg', hn', h2⟩ := he hb
        exact hl ng g' ops (o :: rest) (refine st j false) S w0 σ a w Q hg' (hn'.trans hng) (by subst hng; exact hT.refine hs hb) hM h2
    · rename_i hw
      unfold wpList
      rw [if_pos (by subst hng; exact wanted_yes hT hw)]
      refine .inl ?_
      unfold stepOp at h
      split at h
      · obtain ⟨v, m2, ⟨g', hg', hn', hk⟩, τ, w', x, h1, h2, h3⟩ := xmem_sound hg (by subst hng; exact hT) hM (T.all_bind hg h)
        have hn := hl ng g' ops rest (st.resM o.dst v m2) S w0 (σ ++ τ) _ w' Q hg' (hn'.trans hng) (hT.pre.put h2) h1 (all_later hk τ)
        unfold Oper.wp
        rcases h3 with h3 | ⟨h3, hx⟩
        · rw [h3]; exact hn
        · rw [h3]; rw [hx] at hn; exact hn
      · obtain ⟨r, ⟨g', hg', hn', hr⟩, hres⟩ := xpure_sound hg (by subst hng; exact hT) (T.all_bind hg h)
        have hres := hres S w0 w hM
        unfold Oper.wp
        cases r with
        | v v =>
          obtain ⟨x, hx, hrun⟩ := hres
          rw [hrun]
          exact hl ng g' ops rest (st.res o.dst v) S w0 σ _ w Q hg' (hn'.trans hng) (hT.put hx) hM hr
        | pan v =>
          obtain ⟨x, hx, hrun⟩ := hres
          rw [hrun]
          exact Out.here (r := (.pan v, st)) hr hT hM x hx
        | defer d =>
          obtain ⟨x, dd, hx, hdd, hrun⟩ := hres
          rw [hrun]
          have hT2 : RT ρ σ ng (st.push d).n (st.push d).tm { a with defers := dd :: a.defers } := ⟨hT.size, hT.get, hT.defers.cons hx hdd, hT.glob⟩
          exact hl ng g' ops rest ((st.push d).res o.dst .undef) S w0 σ _ w Q hg' (hn'.trans hng) (hT2.put rfl) hM hr
        | enter f args =>
          obtain ⟨xs, hx, hrun⟩ := hres
          rw [hrun]
          have hr : (((machine P H k).call g' f args st.mem).bind g' fun g x => afterCall (machine P H k) ops rest st o.dst g x.1 x.2).all ρ (Out ρ ng S w0 σ Q) := hr
          refine hc g' f args st.mem xs S w0 σ w _ hg' (by rw [hn', hng]; exact hT.glob) hM hx (T.all_mono ?_ (T.all_bind hg' hr))
          rintro ⟨e, m2⟩ ⟨g2, hg2, hn2, he⟩ τ w' hM'
          cases e with
          | ret v =>
            intro x hx
            exact hl ng g2 ops rest (st.resM o.dst v m2) S w0 (σ ++ τ) _ w' Q hg2 (hn2.trans (hn'.trans hng)) (hT.pre.put hx) hM' (all_later he τ)
          | pan v =>
            intro x hx
            exact he τ a w' hT.pre hM' x hx

/-- a call that only adds to memory: what was known of it stands -/
theorem RM.quiet_in (hM : RM ρ S w0 σ m w) : RM ρ [] w σ m.quiet w := by
  refine ⟨Fr.refl [] w, hM.len, hM.blk, ?_, hM.inj⟩
  intro n b c hlim hs
  have h1 : m.next ≤ n := hlim
  rw [List.getElem?_eq_none (by rw [hM.len]; exact h1)] at hs; cases hs
theorem RM.quiet_out {τ : List (Nat × Nat)} (hM : RM ρ S w0 σ m w) (h : RM ρ [] w τ m' w') : RM ρ S w0 σ m w' := by
  have hb : ∀ i, i < w.heap.size → w'.heap[i]? = w.heap[i]? := fun i hi => h.fr.block i hi (by simp)
  refine ⟨⟨h.fr.os.trans hM.fr.os, h.fr.tape.trans hM.fr.tape, h.fr.output.trans hM.fr.output, Nat.le_trans hM.fr.size h.fr.size, fun k hk hs => (hb k (Nat.lt_of_lt_of_le hk hM.fr.size)).trans (hM.fr.block k hk hs)⟩, hM.len, ?_, hM.own, hM.inj⟩
  intro n k hn
  obtain ⟨b, c, hs, hh⟩ := hM.blk n k hn
  exact ⟨b, c, hs, holds_at hh (fun hl => hb b (holds_lt hh hl))⟩
theorem RM.drew (hM : RM ρ S w0 σ m w) : RM ρ S w0 σ m { w with drawn := w.drawn + 1 } :=
  ⟨⟨hM.fr.os, hM.fr.tape, hM.fr.output, hM.fr.size, hM.fr.block⟩, hM.len, hM.blk, hM.own, hM.inj⟩

/-- the class of worlds of which memory says the same -/
def Cls (ρ : Nat → Int) (S : List Nat) (w0 : World) (σ : List (Nat × Nat)) (m : Mem) (w : World) : Prop := RM ρ S w0 σ m w

def DrawOk (P : Program) (H : Hook) (ρ : Nat → Int) (k : Nat) : Prop := ∀ (ng : Nat) (g : G) (ops : Array Oper) (i : Nat) (rest : List Oper) (st : St) (S : List Nat) (w0 : World) (σ : List (Nat × Nat)) (a : Act) (Q : Exit → Act → World → Prop),
  Gok ρ g → g.ng = ng → rest = ops.toList.drop i → i ≤ ops.size → (∃ w, RM ρ S w0 σ st.mem w) → RT ρ σ ng st.n st.tm a → ((machine P H k).draw g ops i rest st).all ρ (Out ρ ng S w0 σ Q) →
  (∃ n, i ≤ n ∧ n ≤ ops.size ∧ Region.lexTailB .any ops n = true ∧ wpQuiet P ops (Cls ρ S w0 σ st.mem) (fun a' => ∀ w', Cls ρ S w0 σ st.mem w' → wpList P ops Q (ops.toList.drop n) a' w') ((ops.toList.take n).drop i) a) ∨
  (Region.lexB .any ops = true ∧ wpQuiet P ops (Cls ρ S w0 σ st.mem) (fun a' => ∀ w', Cls ρ S w0 σ st.mem w' → Q .normal a' w') rest a)

theorem draw_step (hc : CallOk P H ρ k) (hl : ListOk P H ρ k) (hd : DrawOk P H ρ k) : DrawOk P H ρ (k + 1) := by
  intro ng g ops i rest st S w0 σ a Q hg hng hrest hi hne hT h
  have h : (stepDraw P (machine P H k) g ops i rest st).all ρ (Out ρ ng S w0 σ Q) := h
  cases rest with
  | nil =>
    unfold stepDraw at h
    split at h
    · split at h
      · rename_i hB
        refine .inr ⟨hB, ?_⟩
        intro w' hM
        exact Out.here (r := (.nor, st)) h hT hM
      · cases h
    · rename_i hl0; cases hl0
  | cons o rest =>
    have hlt : i < ops.size := by
      rcases Nat.lt_or_ge i ops.size with h1 | h1
      · exact h1
      · rw [List.drop_eq_nil_of_le (by simpa using h1)] at hrest; cases hrest
    have hdrop : rest = ops.toList.drop (i + 1) := by
      have := congrArg List.tail hrest
      simpa using this
    have htl : ∀ n, i < n → n ≤ ops.size → (ops.toList.take n).drop i = o :: (ops.toList.take n).drop (i + 1) := by
      intro n hn hns
      have h1 : (ops.toList.take n).drop i = (ops.toList.drop i).take (n - i) := by rw [List.drop_take]
      have h2 : (ops.toList.take n).drop (i + 1) = (ops.toList.drop (i + 1)).take (n - (i + 1)) := by rw [List.drop_take]
      rw [h1, h2, ← hrest, ← hdrop, show n - i = (n - (i + 1)) + 1 by omega, List.take_succ_cons]
    -- one quiet operation, then the rest
    have go : ∀ {g' : G} {v : V} {x : Value}, Gok ρ g' → g'.ng = ng → den ρ σ v = some x → Region.wanted o (yielded ops a.tmps) = true → (∀ w, Cls ρ S w0 σ st.mem w → o.quietAt P a (Cls ρ S w0 σ st.mem) w x) → ((machine P H k).draw g' ops (i + 1) rest (st.res o.dst v)).all ρ (Out ρ ng S w0 σ Q) →
        (∃ n, i ≤ n ∧ n ≤ ops.size ∧ Region.lexTailB .any ops n = true ∧ wpQuiet P ops (Cls ρ S w0 σ st.mem) (fun a' => ∀ w', Cls ρ S w0 σ st.mem w' → wpList P ops Q (ops.toList.drop n) a' w') ((ops.toList.take n).drop i) a) ∨
        (Region.lexB .any ops = true ∧ wpQuiet P ops (Cls ρ S w0 σ st.mem) (fun a' => ∀ w', Cls ρ S w0 σ st.mem w' → Q .normal a' w') (o :: rest) a) := by
      intro g' v x hg' hng' hx hwant hq hh
      rcases hd ng g' ops (i + 1) rest (st.res o.dst v) S w0 σ (a.put o.dst x) Q hg' hng' hdrop (by omega) hne (hT.put hx) hh with ⟨n, h1, h2, h3, h4⟩ | ⟨h3, h4⟩
      · refine .inl ⟨n, by omega, h2, h3, ?_⟩
        rw [htl n (by omega) h2]
        unfold wpQuiet
        rw [if_pos hwant]
        exact ⟨x, hq, h4⟩
      · refine .inr ⟨h3, ?_⟩
        unfold wpQuiet
        rw [if_pos hwant]
        exact ⟨x, hq, h4⟩
    have tail : ∀ {g' : G}, Gok ρ g' → g'.ng = ng → (tailOf (machine P H k) g' ops i (o :: rest) st).all ρ (Out ρ ng S w0 σ Q) →
        (∃ n, i ≤ n ∧ n ≤ ops.size ∧ Region.lexTailB .any ops n = true ∧ wpQuiet P ops (Cls ρ S w0 σ st.mem) (fun a' => ∀ w', Cls ρ S w0 σ st.mem w' → wpList P ops Q (ops.toList.drop n) a' w') ((ops.toList.take n).drop i) a) := by
      intro g' hg' hng' hh
      unfold tailOf at hh
      split at hh
      · rename_i hB
        refine ⟨i, Nat.le_refl _, hi, hB, ?_⟩
        have e : (ops.toList.take i).drop i = [] := List.drop_eq_nil_of_le (by simp; omega)
        rw [e]
        intro w' hM
        rw [← hrest]
        have := hl ng g' ops.toList (o :: rest) st S w0 σ a w' Q hg' hng' hT hM hh
        simpa using this
      · cases hh
    unfold stepDraw at h
    split at h
    · rename_i hl0; cases hl0
    rename_i o' rest' hl0
    simp only [List.cons.injEq] at hl0
    obtain ⟨rfl, rfl⟩ := hl0
    split at h
    · cases h
    · rename_i hw
      have hno := wanted_no (g := g) (by subst hng; exact hT) hw
      simp only [Array.toArray_toList] at hno
      rcases hd ng g ops (i + 1) rest (st.res o.dst .undef) S w0 σ (a.put o.dst undef) Q hg hng hdrop (by omega) hne (hT.put rfl) h with ⟨n, h1, h2, h3, h4⟩ | ⟨h3, h4⟩
      · refine .inl ⟨n, by omega, h2, h3, ?_⟩
        rw [htl n (by omega) h2]
        unfold wpQuiet
        rw [if_neg (by rw [hno]; decide)]
        exact h4
      · refine .inr ⟨h3, ?_⟩
        unfold wpQuiet
        rw [if_neg (by rw [hno]; decide)]
        exact h4
    · rename_i j b hw
      have hs := wanted_ask hw
      obtain ⟨ht, he⟩ := brG_all hg h
      cases hb : b.val ρ with
      | true =>
        obtain ⟨g', hg', hn', h2⟩ := ht hb
        exact hd ng g' ops i (o :: rest) (refine st j true) S w0 σ a Q hg' (hn'.trans hng) hrest hi hne (by subst hng; exact hT.refine hs hb) h2
      | false =>
        obtain ⟨g', hg', hn', h2⟩ := he hb
        exact hd ng g' ops i (o :: rest) (refine st j false) S w0 σ a Q hg' (hn'.trans hng) hrest hi hne (by subst hng; exact hT.refine hs hb) h2
    · rename_i hw
      have hyes := wanted_yes (g := g) (by subst hng; exact hT) hw
      simp only [Array.toArray_toList] at hyes
      unfold stepDrawOp at h
      split at h
      · exact .inl (tail hg hng h)
      · obtain ⟨r, ⟨g', hg', hn', hr⟩, hres⟩ := xpure_sound hg (by subst hng; exact hT) (T.all_bind hg h)
        cases r with
        | v v =>
          obtain ⟨w, hM⟩ := hne
          obtain ⟨x, hx, hrun⟩ := hres S w0 w hM
          refine go hg' (hn'.trans hng) hx hyes (fun w2 hM2 => ?_) hr
          obtain ⟨x2, hx2, hrun2⟩ := hres S w0 w2 hM2
          rw [hx] at hx2; cases hx2
          unfold Oper.quietAt
          rw [hrun2]
          exact ⟨rfl, rfl⟩
        | pan v => cases hr
        | defer v => cases hr
        | enter f args =>
          have hr : (drawCall g' (quietB st.mem.next) ((machine P H k).call g' f args st.mem.quiet) (fun g v => (machine P H k).draw g ops (i + 1) rest (st.res o.dst v)) (tailOf (machine P H k) g' ops i (o :: rest) st)).all ρ (Out ρ ng S w0 σ Q) := hr
          unfold drawCall at hr
          split at hr
          · rename_i hq
            obtain ⟨⟨e, m2⟩, hpick, hqe, g2, hg2, hn2, hre⟩ := T.all_pick hq (T.all_bind hg' hr)
            cases e with
            | pan v => cases hqe
            | ret v =>
              simp only [quietB] at hqe
              simp only at hre
              obtain ⟨w, hM⟩ := hne
              obtain ⟨xs, hxs, hrun⟩ := hres S w0 w hM
              have call : ∀ (R : Ending → World → Prop) (w2 : World), RM ρ S w0 σ st.mem w2 → (∀ τ w', RM ρ [] w2 (σ ++ τ) m2 w' → FinR ρ (σ ++ τ) R w' (.ret v)) → Calls P f xs.toArray w2 R :=
                fun R w2 hM2 hR => hc g' f args st.mem.quiet xs [] w2 σ w2 R hg' (by rw [hn', hng]; exact hT.glob) hM2.quiet_in hxs (T.pick_all hpick hR)
              cases hv : den ρ σ v with
              | none =>
                exfalso
                have := call (fun _ _ => False) w hM (fun τ w' hM' x hx => by
                  rw [den_back ρ σ τ _ hM.len v x hqe hx] at hv; cases hv)
                obtain ⟨_, _, _, hf, _⟩ := this []
                exact hf
              | some x =>
                refine go hg2 (hn2.trans (hn'.trans hng)) hv hyes (fun w2 hM2 => ?_) hre
                obtain ⟨xs2, hxs2, hrun2⟩ := hres S w0 w2 hM2
                rw [hxs] at hxs2; cases hxs2
                unfold Oper.quietAt
                rw [hrun2]
                refine ⟨rfl, call _ w2 hM2 ?_⟩
                intro τ w' hM' x' hx'
                have := den_back ρ σ τ _ hM.len v x' hqe hx'
                rw [hv] at this; cases this
                exact ⟨rfl, hM2.quiet_out hM'⟩
          · exact .inl (tail hg' (hn'.trans hng) hr)

/-- where no panic may be -/
def NoP (Q : Exit → Act → World → Prop) : Exit → Act → World → Prop
  | .panic _, _, _ => False
  | e, a, w => Q e a w
theorem RM.wide (hM : RM ρ S w0 σ m w) {τ : List (Nat × Nat)} {Sx : List Nat} (hdis : ∀ n k y, m.blks.get n = some k → k.live = true → σ[n]? = some y → y.1 ∉ Sx) (h : Fr Sx w w') : RM ρ [] w' (σ ++ τ) (m.wide (σ ++ τ).length) w' := by
  refine ⟨Fr.refl [] w', rfl, ?_, ?_, ?_⟩
  · intro n k hn
    obtain ⟨b, c, hs, hh⟩ := hM.blk n k hn
    exact ⟨b, c, get_pre hs, holds_at (holds_pre hh) (fun hl => h.block b (holds_lt hh hl) (hdis n k _ hn hl hs))⟩
  · intro n b c hlim hs
    have h1 : (σ ++ τ).length ≤ n := hlim
    rw [List.getElem?_eq_none h1] at hs; cases hs
  · intro i j k l hi hj hne hk hl hro x y hx hy
    obtain ⟨b, c, hs, _⟩ := hM.blk i k hi
    obtain ⟨b', c', hs', _⟩ := hM.blk j l hj
    rw [get_pre hs] at hx; cases hx
    rw [get_pre hs'] at hy; cases hy
    exact hM.inj i j k l hi hj hne hk hl hro _ _ hs hs'
theorem pickFree_ok {g : G} {m0 : Mem} {tm : TM} {ops : Array Oper} {listed : Array Bool} {j : Nat} : ∀ {l : List Nat}, pickFree g m0 tm ops listed l = some j → j ∈ l ∧ Region.free .any ops listed j = true
  | [], h => by cases h
  | i :: l, h => by
    unfold pickFree at h
    split at h
    · obtain ⟨h1, h2⟩ := pickFree_ok h; exact ⟨List.mem_cons_of_mem _ h1, h2⟩
    · split at h
      · obtain ⟨h1, h2⟩ := pickFree_ok h; exact ⟨List.mem_cons_of_mem _ h1, h2⟩
      · split at h
        · rename_i hf; cases h; exact ⟨List.mem_cons_self, hf⟩
        · obtain ⟨h1, h2⟩ := pickFree_ok h; exact ⟨List.mem_cons_of_mem _ h1, h2⟩

theorem mem_of_memN {i : Nat} : ∀ {l : List Nat}, memN i l = true → i ∈ l
  | [], h => by cases h
  | j :: l, h => by
    simp only [memN, Bool.or_eq_true] at h
    rcases h with h | h
    · rw [Nat.eq_of_beq_eq_true h]; exact List.mem_cons_self
    · exact List.mem_cons_of_mem _ (mem_of_memN h)
def AnyOk (P : Program) (H : Hook) (ρ : Nat → Int) (k : Nat) : Prop := ∀ (ng : Nat) (g : G) (ops : Array Oper) (fuel : Nat) (listed : Array Bool) (ws : List Nat) (m0 : Mem) (st : St) (σ0 τ : List (Nat × Nat)) (a : Act) (w1 w : World) (Q : Exit → Act → World → Prop) (Sx : List Nat),
  Gok ρ g → g.ng = ng → Region.noSelect ops = true → RT ρ (σ0 ++ τ) ng st.n st.tm a → RM ρ Sx w1 σ0 m0 w1 → RM ρ Sx w1 (σ0 ++ τ) st.mem w → (∀ b ∈ ws, ∃ y, σ0[b]? = some y ∧ y.1 ∈ Sx) → (∀ n k y, m0.blks.get n = some k → k.live = true → σ0[n]? = some y → y.1 ∉ Sx) →
  ((machine P H k).any g ops fuel listed ws m0 st).all ρ (Out ρ ng Sx w1 (σ0 ++ τ) (NoP Q)) → wpAnyH P .any ops (NoP Q) (fun w' => Fr Sx w1 w') fuel listed a w

theorem oneV_ok (hc : CallOk P H ρ k) {g : G} {ops : Array Oper} {st st' : St} (hg : Gok ρ g) (hng : g.ng = ng) (hT : RT ρ σ ng st.n st.tm a) (hM : RM ρ S w0 σ st.mem w) (h : oneV P (machine P H k) g ops st o = some st') {X : Act → World → Prop} {QQ : Exit → Act → World → Prop}
    (hX : ∀ τ' x w', RT ρ (σ ++ τ') ng st'.n st'.tm (a.put o.dst x) → RM ρ S w0 (σ ++ τ') st'.mem w' → X (a.put o.dst x) w') :
    if Region.wanted o (yielded ops a.tmps) then o.wp P a w X QQ ∨ (o.asks P a w ∧ LetsOut QQ) else X (a.put o.dst undef) w := by
  have hT' : RT ρ σ g.ng st.n st.tm a := by rw [hng]; exact hT
  unfold oneV at h
  split at h
  · rename_i hw
    cases h
    have hno := wanted_no hT' hw
    simp only [Array.toArray_toList] at hno
    rw [if_neg (by rw [hno]; decide)]
    exact hX [] _ _ (by rw [List.append_nil]; exact hT.put rfl) (by rw [List.append_nil]; exact hM)
  · rename_i hw
    have hyes := wanted_yes hT' hw
    simp only [Array.toArray_toList] at hyes
    rw [if_pos hyes]
    refine .inl ?_
    split at h
    · split at h
      · rename_i y hy
        cases h
        obtain ⟨v, m2, hk, τ', w', x, h1, h2, h3⟩ := xmem_sound (K := fun z => z = y) hg hT' hM (by rw [hy]; exact rfl)
        subst hk
        have hgo := hX τ' x w' (hT.pre.put h2) h1
        unfold Oper.wp
        rcases h3 with h3 | ⟨h3, hx⟩
        · rw [h3]; exact hgo
        · rw [h3]; rw [hx] at hgo; exact hgo
      · cases h
    · split at h
      · rename_i y hy
        obtain ⟨r, hk, hres⟩ := xpure_sound (K := fun z => z = y) hg hT' (by rw [hy]; exact rfl)
        subst hk
        have hres := hres S w0 w hM
        unfold Oper.wp
        split at h
        · rename_i v
          cases h
          obtain ⟨x, hx, hrun⟩ := hres
          rw [hrun]
          exact hX [] x w (by rw [List.append_nil]; exact hT.put hx) (by rw [List.append_nil]; exact hM)
        · rename_i f args _
          split at h
          · rename_i z hz
            obtain ⟨xs, hx, hrun⟩ := hres
            rw [hrun]
            split at h
            · rename_i v hv
              cases h
              refine hc g f args st.mem xs S w0 σ w _ hg (by rw [hng]; exact hT.glob) hM hx ?_
              rw [hz]
              intro τ' w' hM'
              rw [hv]
              intro x hx
              exact hX τ' x w' (hT.pre.put hx) hM'
            · cases h
          · cases h
        · cases h
      · cases h
  · cases h
theorem freeV_ok {g : G} {ops : Array Oper} {m0 : Mem} {st st' : St} (hg : Gok ρ g) (hng : g.ng = ng) (hT : RT ρ σ ng st.n st.tm a) {I : World → Prop} (hI : ∀ w', I w' → RM ρ [] w' σ (m0.wide st.mem.next) w') (hw : I w) (h : freeV P g ops m0 st o = some st') :
    ∃ x, YieldsIf P ops I o x a ∧ RT ρ σ ng st'.n st'.tm (a.put o.dst x) ∧ st'.mem = st.mem := by
  have hT' : RT ρ σ g.ng st.n st.tm a := by rw [hng]; exact hT
  unfold freeV at h
  split at h
  · rename_i hw
    cases h
    have hno := wanted_no hT' hw
    simp only [Array.toArray_toList] at hno
    exact ⟨undef, .inr ⟨hno, rfl⟩, hT.put rfl, rfl⟩
  · rename_i hw'
    have hyes := wanted_yes hT' hw'
    simp only [Array.toArray_toList] at hyes
    split at h
    · rename_i y hy
      obtain ⟨r, hk, hres⟩ := xpure_sound (K := fun z => z = y) hg hT' (by rw [hy]; exact rfl)
      subst hk
      split at h
      · rename_i v
        cases h
        obtain ⟨x, hx, hrun⟩ := hres _ _ w (hI w hw)
        refine ⟨x, .inl ⟨hyes, fun w' hf => ?_⟩, hT.put hx, rfl⟩
        obtain ⟨x2, hx2, hrun2⟩ := hres _ _ w' (hI w' hf)
        rw [hx] at hx2; cases hx2
        exact hrun2
      · cases h
    · cases h
  · cases h
theorem succDE_ok {g : G} {ops : Array Oper} {m0 : Mem} {nb : Nat} {σn : List (Nat × Nat)} (hlen : σn.length = nb) (hng : ng ≤ nb) {e : DE} : ∀ {js : List Nat} {out out' : List DE}, succDE P (machine P H k) g ops m0 nb e js out = some out' → (∀ d ∈ out, Bnd d.st) →
    (∀ d ∈ out, d ∈ out') ∧ (∀ d ∈ out', Bnd d.st) ∧ ∀ j ∈ js, ∃ o st', ops[j]? = some o ∧ oneV P (machine P H k) g ops e.st o = some st' ∧ Has ρ S w0 ng σn out' (e.l.setIfInBounds j true) st'
  | [], out, out', h, hB => by
    simp only [succDE, Option.some.injEq] at h
    subst h
    exact ⟨fun _ hd => hd, hB, fun j hj => (by cases hj)⟩
  | j :: js, out, out', h, hB => by
    simp only [succDE] at h
    split at h
    · cases h
    · rename_i o ho
      split at h
      · cases h
      · rename_i st' hst
        split at h
        · cases h
        · rename_i out1 h1
          obtain ⟨a1, a2, a3⟩ := insDE_ok (ρ := ρ) (S := S) (w0 := w0) hlen hng h1 hB
          obtain ⟨b1, b2, b3⟩ := succDE_ok hlen hng h a2
          refine ⟨fun d hd => b1 d (a1 d hd), b2, fun i hi => ?_⟩
          rcases List.mem_cons.1 hi with rfl | hi
          · exact ⟨o, st', ho, hst, a3.mono b1⟩
          · exact b3 i hi
theorem layerDE_ok {g : G} {ops : Array Oper} {m0 : Mem} {nb : Nat} {σn : List (Nat × Nat)} (hlen : σn.length = nb) (hng : ng ≤ nb) : ∀ {l out out' : List DE}, layerDE P (machine P H k) g ops m0 nb l out = some out' → (∀ d ∈ out, Bnd d.st) →
    (∀ d ∈ out, d ∈ out') ∧ (∀ d ∈ out', Bnd d.st) ∧ ∀ e ∈ l, Region.ready .any ops e.l ≠ [] ∧
      ((∃ j o st', j ∈ Region.ready .any ops e.l ∧ Region.free .any ops e.l j = true ∧ ops[j]? = some o ∧ freeV P g ops m0 e.st o = some st' ∧ Has ρ S w0 ng σn out' (e.l.setIfInBounds j true) st') ∨
       (∀ j ∈ Region.ready .any ops e.l, ∃ o st', ops[j]? = some o ∧ oneV P (machine P H k) g ops e.st o = some st' ∧ Has ρ S w0 ng σn out' (e.l.setIfInBounds j true) st'))
  | [], out, out', h, hB => by
    simp only [layerDE, Option.some.injEq] at h
    subst h
    exact ⟨fun _ hd => hd, hB, fun j hj => (by cases hj)⟩
  | e :: l, out, out', h, hB => by
    simp only [layerDE] at h
    split at h
    · cases h
    · rename_i i is hr
      split at h
      · rename_i j hj
        obtain ⟨hmem, hfree⟩ := pickFree_ok hj
        split at h
        · cases h
        · rename_i o ho
          split at h
          · cases h
          · rename_i st' hst
            split at h
            · cases h
            · rename_i out1 h1
              obtain ⟨a1, a2, a3⟩ := insDE_ok (ρ := ρ) (S := S) (w0 := w0) hlen hng h1 hB
              obtain ⟨b1, b2, b3⟩ := layerDE_ok hlen hng h a2
              refine ⟨fun d hd => b1 d (a1 d hd), b2, fun x hx => ?_⟩
              rcases List.mem_cons.1 hx with rfl | hx
              · exact ⟨by rw [hr]; simp, .inl ⟨j, o, st', by rw [hr]; exact hmem, hfree, ho, hst, a3.mono b1⟩⟩
              · exact b3 x hx
      · split at h
        · cases h
        · rename_i out1 h1
          obtain ⟨a1, a2, a3⟩ := succDE_ok (ρ := ρ) (S := S) (w0 := w0) hlen hng h1 hB
          obtain ⟨b1, b2, b3⟩ := layerDE_ok hlen hng h a2
          refine ⟨fun d hd => b1 d (a1 d hd), b2, fun x hx => ?_⟩
          rcases List.mem_cons.1 hx with rfl | hx
          · refine ⟨by rw [hr]; simp, .inr fun j hj => ?_⟩
            rw [hr] at hj
            obtain ⟨o, st', c1, c2, c3⟩ := a3 j hj
            exact ⟨o, st', c1, c2, c3.mono b1⟩
          · exact b3 x hx
theorem dpAll_ok (hc : CallOk P H ρ k) {g : G} {ops : Array Oper} {m0 : Mem} {nb : Nat} {σ0 τ0 : List (Nat × Nat)} {w1 : World} {Sx : List Nat} {Q : Exit → Act → World → Prop} (hg : Gok ρ g) (hgn : g.ng = ng) (hns : Region.noSelect ops = true) (hlen : (σ0 ++ τ0).length = nb) (hng : ng ≤ nb) (hM0 : RM ρ Sx w1 σ0 m0 w1)
    (hdis : ∀ n k y, m0.blks.get n = some k → k.live = true → σ0[n]? = some y → y.1 ∉ Sx) {stF : St} (fin : ∀ τ a w, RT ρ (σ0 ++ τ0 ++ τ) ng stF.n stF.tm a → RM ρ Sx w1 (σ0 ++ τ0 ++ τ) stF.mem w → NoP Q .normal a w) :
    ∀ (n fu : Nat) (l : List DE) (listed : Array Bool) (a : Act) (w : World), dpAll P (machine P H k) g ops m0 nb n l = some stF → n ≤ fu + 1 → (∃ e ∈ l, e.l = listed ∧ ∃ τ, RT ρ (σ0 ++ τ0 ++ τ) ng e.st.n e.st.tm a ∧ RM ρ Sx w1 (σ0 ++ τ0 ++ τ) e.st.mem w) →
      wpAnyH P .any ops (NoP Q) (fun w' => Fr Sx w1 w') fu listed a w := by
  intro n
  induction n with
  | zero => intro fu l listed a w h; cases h
  | succ n ih =>
    intro fu l listed a w h hfu hex
    simp only [dpAll] at h
    split at h
    · cases h
    · rename_i e0 l'
      split at h
      · rename_i hr
        split at h
        · simp only [Option.some.injEq] at h
          subst h
          obtain ⟨e, he, rfl, τ, hT, hM⟩ := hex
          simp only [List.mem_cons, List.not_mem_nil, or_false] at he
          subst he
          exact wpAnyH_done hr (fin τ a w hT hM) fu
        · cases h
      · split at h
        · cases h
        · rename_i out hout
          cases fu with
          | zero =>
            have : n = 0 := by omega
            subst this
            cases h
          | succ fu =>
            obtain ⟨_, _, b3⟩ := layerDE_ok (ρ := ρ) (S := Sx) (w0 := w1) (ng := ng) hlen hng hout (fun d hd => by cases hd)
            obtain ⟨e, he, rfl, τ, hT, hM⟩ := hex
            obtain ⟨hne, hcase⟩ := b3 e he
            rcases hcase with ⟨j, o, st', hj, hfree, ho, hst, hHas⟩ | hall
            · have hwid : ∀ w', Fr Sx w1 w' → RM ρ [] w' (σ0 ++ τ0 ++ τ) (m0.wide e.st.mem.next) w' := fun w' hf => by
                have := hM0.wide (τ := τ0 ++ τ) hdis hf
                rw [← List.append_assoc, hM.len] at this
                exact this
              obtain ⟨x, hy, hT2, hm2⟩ := freeV_ok hg hgn hT hwid hM.fr hst
              refine wpAnyH_take ho hns hfree (by simpa using hj) (fun _ _ _ hp => hp.elim) hy hM.fr (ih fu out _ _ w h (by omega) ?_)
              exact hHas τ _ w hT2 (by rw [hm2]; exact hM)
            · refine wpAnyH_all rfl hne fun j hj => ?_
              obtain ⟨o, st', ho, hst, hHas⟩ := hall j hj
              unfold wpOp
              simp only [ho]
              refine oneV_ok hc hg hgn hT hM hst ?_
              intro τ' x w' hT2 hM2
              rw [List.append_assoc (σ0 ++ τ0)] at hT2 hM2
              exact ⟨hM2.fr, ih fu out _ _ w' h (by omega) (hHas _ _ w' hT2 hM2)⟩

theorem any_step (hc : CallOk P H ρ k) (ha : AnyOk P H ρ k) : AnyOk P H ρ (k + 1) := by
  intro ng g ops fuel listed ws m0 st σ0 τ a w1 w Q Sx hg hng hns hT hM0 hM hws hdis h
  have h : (stepAny P (machine P H k) g ops fuel listed ws m0 st).all ρ (Out ρ ng Sx w1 (σ0 ++ τ) (NoP Q)) := h
  unfold stepAny at h
  split at h
  · rename_i hr
    exact wpAnyH_done hr (show NoP Q .normal a w from Out.here (r := (.nor, st)) h hT hM) fuel
  · rename_i i is hr
    cases fuel with
    | zero => cases h
    | succ fuel =>
      simp only at h
      have hT' : RT ρ (σ0 ++ τ) g.ng st.n st.tm a := by rw [hng]; exact hT
      split at h
      · -- one is taken first
        rename_i j hj
        obtain ⟨hmem, hfree⟩ := pickFree_ok hj
        rw [← hr] at hmem
        unfold anyTake at h
        split at h
        · cases h
        · rename_i o ho
          have take : ∀ {x : Value}, YieldsIf P ops (fun w' => Fr Sx w1 w') o x a → wpAnyH P .any ops (NoP Q) (fun w' => Fr Sx w1 w') fuel (listed.setIfInBounds j true) (a.put o.dst x) w → wpAnyH P .any ops (NoP Q) (fun w' => Fr Sx w1 w') (fuel + 1) listed a w :=
            fun hy hh => wpAnyH_take ho hns hfree (by simpa using hmem) (fun _ _ _ hp => hp.elim) hy hM.fr hh
          split at h
          · cases h
          · rename_i hw
            have hno := wanted_no hT' hw
            simp only [Array.toArray_toList] at hno
            exact take (.inr ⟨hno, rfl⟩) (ha ng g ops fuel _ ws m0 (st.res o.dst .undef) σ0 τ _ w1 w Q Sx hg hng hns (hT.put rfl) hM0 hM hws hdis h)
          · rename_i t b hw
            have hs := wanted_ask hw
            obtain ⟨ht, he⟩ := brG_all hg h
            cases hb : b.val ρ with
            | true =>
              obtain ⟨g', hg', hn', h2⟩ := ht hb
              exact ha ng g' ops (fuel + 1) listed ws m0 (refine st t true) σ0 τ a w1 w Q Sx hg' (hn'.trans hng) hns (by rw [← hng]; exact hT'.refine hs hb) hM0 hM hws hdis h2
            | false =>
              obtain ⟨g', hg', hn', h2⟩ := he hb
              exact ha ng g' ops (fuel + 1) listed ws m0 (refine st t false) σ0 τ a w1 w Q Sx hg' (hn'.trans hng) hns (by rw [← hng]; exact hT'.refine hs hb) hM0 hM hws hdis h2
          · rename_i hw
            have hyes := wanted_yes hT' hw
            simp only [Array.toArray_toList] at hyes
            obtain ⟨r, ⟨g', hg', hn', hk⟩, hres⟩ := xpure_sound hg hT' (T.all_bind hg h)
            cases r with
            | v v =>
              have hwid : ∀ w', Fr Sx w1 w' → RM ρ [] w' (σ0 ++ τ) (m0.wide st.mem.next) w' := fun w' hf => by
                have := hM0.wide (τ := τ) hdis hf
                rw [hM.len] at this
                exact this
              obtain ⟨x, hx, hrun⟩ := hres _ _ w (hwid w hM.fr)
              refine take (.inl ⟨hyes, fun w' hf => ?_⟩) (ha ng g' ops fuel _ ws m0 (st.res o.dst v) σ0 τ _ w1 w Q Sx hg' (hn'.trans hng) hns (hT.put hx) hM0 hM hws hdis hk)
              obtain ⟨x2, hx2, hrun2⟩ := hres _ _ w' (hwid w' hf)
              rw [hx] at hx2; cases hx2
              exact hrun2
            | pan v => cases hk
            | defer v => cases hk
            | enter f args => cases hk
      · -- there is one alone
        split at h
        · rename_i hi0
          refine wpAnyH_all hr (by simp) ?_
          intro j hj
          simp only [List.mem_cons, List.not_mem_nil, or_false] at hj
          subst hj
          unfold anyOne at h
          split at h
          · cases h
          · rename_i o ho
            have goon : ∀ {st' : St} {v : V} {x : Value} {g' : G} {τ' : List (Nat × Nat)} {w' : World}, Gok ρ g' → g'.ng = ng → RT ρ (σ0 ++ (τ ++ τ')) ng st'.n st'.tm (a.put o.dst x) → RM ρ Sx w1 (σ0 ++ (τ ++ τ')) st'.mem w' →
                ((machine P H k).any g' ops fuel (listed.setIfInBounds j true) ws m0 st').all ρ (Out ρ ng Sx w1 (σ0 ++ τ) (NoP Q)) → Fr Sx w1 w' ∧ wpAnyH P .any ops (NoP Q) (fun w' => Fr Sx w1 w') fuel (listed.setIfInBounds j true) (a.put o.dst x) w' := by
              intro st' v x g' τ' w' hg' hn' hT2 hM2 hh
              refine ⟨hM2.fr, ha ng g' ops fuel _ ws m0 st' σ0 (τ ++ τ') _ w1 w' Q Sx hg' hn' hns hT2 hM0 hM2 hws hdis ?_⟩
              have := all_later hh τ'
              rwa [List.append_assoc] at this
            unfold wpOp
            simp only [ho]
            split at h
            · cases h
            · rename_i hw
              have hno := wanted_no hT' hw
              simp only [Array.toArray_toList] at hno
              rw [if_neg (by rw [hno]; decide)]
              exact goon (st' := st.res o.dst .undef) (v := .undef) (τ' := []) hg hng (by rw [List.append_nil]; exact hT.put rfl) (by rw [List.append_nil]; exact hM) h
            · rename_i t b hw
              have hs := wanted_ask hw
              obtain ⟨ht, he⟩ := brG_all hg h
              have again : ∀ c : Bool, b.val ρ = c → (∃ g', Gok ρ g' ∧ g'.ng = g.ng ∧ ((machine P H k).any g' ops (fuel + 1) listed ws m0 (refine st t c)).all ρ (Out ρ ng Sx w1 (σ0 ++ τ) (NoP Q))) →
                  (if Region.wanted o (yielded ops a.tmps) then o.wp P a w (fun a' w' => Fr Sx w1 w' ∧ wpAnyH P .any ops (NoP Q) (fun w' => Fr Sx w1 w') fuel (listed.setIfInBounds j true) a' w') (NoP Q) ∨ (o.asks P a w ∧ LetsOut (NoP Q))
                    else Fr Sx w1 w ∧ wpAnyH P .any ops (NoP Q) (fun w' => Fr Sx w1 w') fuel (listed.setIfInBounds j true) (a.put o.dst undef) w) := by
                intro c hb ⟨g', hg', hn', h2⟩
                have := ha ng g' ops (fuel + 1) listed ws m0 (refine st t c) σ0 τ a w1 w Q Sx hg' (hn'.trans hng) hns (by rw [← hng]; exact hT'.refine hs hb) hM0 hM hws hdis h2
                have h3 := this.2 j (by rw [hr]; simp)
                unfold wpOp at h3
                simp only [ho] at h3
                exact h3
              cases hb : b.val ρ with
              | true => exact again true hb (ht hb)
              | false => exact again false hb (he hb)
            · rename_i hw
              have hyes := wanted_yes hT' hw
              simp only [Array.toArray_toList] at hyes
              rw [if_pos hyes]
              refine .inl ?_
              split at h
              · split at h
                · rename_i m' hst
                  unfold storeIn at hst
                  split at hst
                  · rename_i t x y ho'
                    split at hst
                    · rename_i b q v hx hy
                      split at hst
                      · rename_i hb
                        obtain ⟨yb, hyb, hSx⟩ := hws b (mem_of_memN hb)
                        have hden := ev_den hT' hy
                        obtain ⟨y1, w', h1, h2, h3⟩ := storeW_sound hM (fun y' hy' => by rw [get_pre hyb] at hy'; cases hy'; exact .inr hSx) hst hden
                        obtain ⟨y2, h4, e⟩ := den_ptr (ev_den hT' hx)
                        rw [h1] at h4; cases h4
                        have hrun : (execOp a.eval o).run P w = .ok .skip w' := by
                          unfold execOp
                          simp only [ho', e, Instr.storeAt, Instr.sureAddr, Sem.run_bind, Sem.run_pure, Result.andThen_ok, h3]
                        unfold Oper.wp
                        rw [hrun]
                        exact goon (st' := st.resM o.dst .undef m') (v := .undef) (x := undef) (τ' := []) hg hng (by rw [List.append_nil]; exact hT.put rfl) (by rw [List.append_nil]; exact h2) h
                      · cases hst
                    · cases hst
                  · cases hst
                · obtain ⟨v, m2, ⟨g', hg', hn', hk⟩, τ', w', x, h1, h2, h3⟩ := xmem_sound hg hT' hM (T.all_bind hg h)
                  rw [List.append_assoc] at h1 h2
                  have hT2 : RT ρ (σ0 ++ (τ ++ τ')) ng st.n st.tm a := by rw [← List.append_assoc]; exact hT.pre
                  have hgo := goon (st' := st.resM o.dst v m2) (v := v) hg' (hn'.trans hng) (hT2.put h2) h1 hk
                  unfold Oper.wp
                  rcases h3 with h3 | ⟨h3, hx⟩
                  · rw [h3]; exact hgo
                  · rw [h3]; rw [hx] at hgo; exact hgo
              · obtain ⟨r, ⟨g', hg', hn', hk⟩, hres⟩ := xpure_sound hg hT' (T.all_bind hg h)
                have hres := hres _ _ w hM
                unfold Oper.wp
                cases r with
                | v v =>
                  obtain ⟨x, hx, hrun⟩ := hres
                  rw [hrun]
                  exact goon (st' := st.res o.dst v) (v := v) (τ' := []) hg' (hn'.trans hng) (by rw [List.append_nil]; exact hT.put hx) (by rw [List.append_nil]; exact hM) hk
                | pan v => cases hk
                | defer v => cases hk
                | enter f args =>
                  obtain ⟨xs, hx, hrun⟩ := hres
                  rw [hrun]
                  have hk : (((machine P H k).call g' f args st.mem).bind g' fun g y => anyCall (machine P H k) ops fuel (listed.setIfInBounds j true) ws m0 st o.dst g y.1 y.2).all ρ (Out ρ ng Sx w1 (σ0 ++ τ) (NoP Q)) := hk
                  refine hc g' f args st.mem xs Sx w1 (σ0 ++ τ) w _ hg' (by rw [hn', hng]; exact hT.glob) hM hx (T.all_mono ?_ (T.all_bind hg' hk))
                  rintro ⟨e, m2⟩ ⟨g2, hg2, hn2, he⟩ τ' w' hM'
                  cases e with
                  | ret v =>
                    intro x hx
                    rw [List.append_assoc] at hM' hx
                    have hT2 : RT ρ (σ0 ++ (τ ++ τ')) ng st.n st.tm a := by rw [← List.append_assoc]; exact hT.pre
                    exact goon (st' := st.resM o.dst v m2) (v := v) hg2 (hn2.trans (hn'.trans hng)) (hT2.put hx) hM' he
                  | pan v => cases he
        · split at h
          · rename_i stF hdp
            · have hlen : (σ0 ++ τ).length = st.mem.next := hM.len
              have hngn : ng ≤ st.mem.next := by
                rcases Nat.eq_zero_or_pos ng with h0 | h0
                · omega
                · obtain ⟨c, hc'⟩ := hT.glob (ng - 1) (by omega)
                  have := (List.getElem?_eq_some_iff.1 hc').1
                  omega
              refine dpAll_ok hc hg hng hns hlen hngn hM0 hdis (fun τ' a' w' hT2 hM2 => ?_) (fuel + 2) (fuel + 1) _ listed a w hdp (by omega) ⟨_, List.mem_cons_self, rfl, [], by simpa using hT, by simpa using hM⟩
              have h2 : Out ρ ng Sx w1 (σ0 ++ τ) (NoP Q) (.nor, stF) := h
              exact h2 τ' a' w' hT2 hM2
          · cases h

/-- memory behind a region, with what may be written as ahead of it -/
theorem RM.back {τ : List (Nat × Nat)} {Sx : List Nat} (hM : RM ρ S w0 σ m w) (hS : ∀ x ∈ Sx, w0.heap.size ≤ x ∨ x ∈ S) (h : RM ρ Sx w (σ ++ τ) m' w') (hl : m'.lim = m.next) : RM ρ S w0 (σ ++ τ) { m' with lim := m.lim } w' := by
  have hb : ∀ i, i < w.heap.size → i ∉ Sx → w'.heap[i]? = w.heap[i]? := fun i hi hn => h.fr.block i hi hn
  refine ⟨⟨h.fr.os.trans hM.fr.os, h.fr.tape.trans hM.fr.tape, h.fr.output.trans hM.fr.output, Nat.le_trans hM.fr.size h.fr.size, fun k hk hs => (hb k (Nat.lt_of_lt_of_le hk hM.fr.size) (fun hx => by rcases hS k hx with h1 | h1; omega; exact hs h1)).trans (hM.fr.block k hk hs)⟩, h.len, h.blk, ?_, h.inj⟩
  intro n b c hlim hs
  rcases Nat.lt_or_ge n σ.length with hn | hn
  · rw [List.getElem?_append_left hn] at hs
    exact hM.own n b c hlim hs
  · rcases h.own n b c (by rw [hl, ← hM.len]; exact hn) hs with h1 | h1
    · exact .inl (Nat.le_trans hM.fr.size h1)
    · exact hS b h1
theorem RM.quiet_inS (hM : RM ρ S w0 σ m w) (Sx : List Nat) : RM ρ Sx w σ m.quiet w := by
  refine ⟨Fr.refl Sx w, hM.len, hM.blk, ?_, hM.inj⟩
  intro n b c hlim hs
  have h1 : m.next ≤ n := hlim
  rw [List.getElem?_eq_none (by rw [hM.len]; exact h1)] at hs; cases hs
theorem okW_mem : ∀ {ws : List Nat} {m : Mem}, okW m ws = true → ∀ b ∈ ws, m.lim ≤ b ∧ ∃ k, m.blks.get b = some k ∧ k.live = true ∧ k.ro = false
  | [], _, _, b, hb => by cases hb
  | b' :: ws, m, h, b, hb => by
    simp only [okW, Bool.and_eq_true] at h
    rcases List.mem_cons.1 hb with rfl | hb
    · refine ⟨Nat.le_of_ble_eq_true h.1.1, ?_⟩
      have h2 := h.1.2
      unfold isLiveW at h2
      split at h2
      · rename_i k hk; simp only [Bool.and_eq_true, Bool.not_eq_true'] at h2; exact ⟨k, hk, h2⟩
      · cases h2
    · exact okW_mem h.2 b hb
theorem RM.goneL : ∀ {ws : List Nat}, (∀ b ∈ ws, ∃ y, σ[b]? = some y) → RM ρ S w0 σ m w → RM ρ S w0 σ (goneL m ws) w
  | [], _, hM => hM
  | b :: ws, h, hM => by
    obtain ⟨y, hy⟩ := h b List.mem_cons_self
    have := RM.goneL (ws := ws) (fun b hb => h b (List.mem_cons_of_mem _ hb)) hM
    exact RM.forget this (n := b) (b := y.1) (c := y.2) hy
theorem goneL_get : ∀ {ws : List Nat} {m : Mem} {n : Nat} {k : Blk}, (goneL m ws).blks.get n = some k → k.live = true → n ∉ ws ∧ m.blks.get n = some k
  | [], _, _, _, h, _ => ⟨by simp, h⟩
  | b :: ws, m, n, k, h, hl => by
    have h : ((Sy.goneL m ws).blks.set b .gone).get n = some k := h
    rcases PT.get_set _ _ _ _ _ h with ⟨rfl, rfl⟩ | ⟨hne, h⟩
    · cases hl
    · obtain ⟨h1, h2⟩ := goneL_get h hl
      exact ⟨by simp only [List.mem_cons, not_or]; exact ⟨hne, h1⟩, h2⟩
theorem RM.back2 {τ : List (Nat × Nat)} {Sx : List Nat} (hM : RM ρ S w0 σ m w) (hS : ∀ x ∈ Sx, w0.heap.size ≤ x ∨ x ∈ S) (h : RM ρ Sx w (σ ++ τ) m' w') (hl : m'.lim = m.lim) : RM ρ S w0 (σ ++ τ) m' w' := by
  have hb : ∀ i, i < w.heap.size → i ∉ Sx → w'.heap[i]? = w.heap[i]? := fun i hi hn => h.fr.block i hi hn
  refine ⟨⟨h.fr.os.trans hM.fr.os, h.fr.tape.trans hM.fr.tape, h.fr.output.trans hM.fr.output, Nat.le_trans hM.fr.size h.fr.size, fun k hk hs => (hb k (Nat.lt_of_lt_of_le hk hM.fr.size) (fun hx => by rcases hS k hx with h1 | h1; omega; exact hs h1)).trans (hM.fr.block k hk hs)⟩, h.len, h.blk, ?_, h.inj⟩
  intro n b c hlim hs
  rcases h.own n b c hlim hs with h1 | h1
  · exact .inl (Nat.le_trans hM.fr.size h1)
  · exact hS b h1
theorem orElse_all {t u : T (Ex × St)} {K : Ex × St → Prop} (h : (orElse t u).all ρ K) : t.all ρ K ∨ u.all ρ K := by
  cases t with
  | bad => exact .inr h
  | ret x => exact .inl h
  | br b x y => exact .inl h
  | alt x y => exact .inl h
theorem any2_step (hm : P.follows .mixedOrders = true) (ha : AnyOk P H ρ k) {ng : Nat} {g : G} {id : Nat} {ops : Array Oper} {st : St} {Q : Exit → Act → World → Prop} (hg : Gok ρ g) (hng : g.ng = ng) (hT : RT ρ σ ng st.n st.tm a) (hM : RM ρ S w0 σ st.mem w) (h : (stepAny2 (machine P H k) g ops st).all ρ (Out ρ ng S w0 σ Q)) : (Code.region id ops true).wp P Q a w := by
  unfold stepAny2 at h
  split at h
  · cases h
  · rename_i hns
    have hMd := hM.drew
    let Sx : List Nat := (σ.drop st.mem.lim).map (·.1)
    have hSx : ∀ x ∈ Sx, w0.heap.size ≤ x ∨ x ∈ S := fun x hx => by
      obtain ⟨y, hy, rfl⟩ := List.mem_map.1 hx
      obtain ⟨i, hi⟩ := List.getElem?_of_mem hy
      rw [List.getElem?_drop] at hi
      exact hM.own (st.mem.lim + i) y.1 y.2 (by omega) hi
    have hM1 : RM ρ Sx { w with drawn := w.drawn + 1 } σ st.mem { w with drawn := w.drawn + 1 } := by
      refine ⟨Fr.refl _ _, hMd.len, hMd.blk, fun n b c hl hs => .inr ?_, hMd.inj⟩
      refine List.mem_map.2 ⟨(b, c), List.mem_of_getElem? (i := n - st.mem.lim) ?_, rfl⟩
      rw [List.getElem?_drop, show st.mem.lim + (n - st.mem.lim) = n by omega]
      exact hs
    have hM0 : RM ρ Sx { w with drawn := w.drawn + 1 } σ ⟨PT.full none 14, st.mem.next, st.mem.next⟩ { w with drawn := w.drawn + 1 } := by
      refine ⟨Fr.refl _ _, hMd.len, fun n k hn => ?_, fun n b c hl hs => ?_, fun i j k l hi => ?_⟩
      · have := PT.get_full _ _ _ _ hn; cases this
      · have hl : st.mem.next ≤ n := hl
        rw [List.getElem?_eq_none (by rw [hMd.len]; exact hl)] at hs; cases hs
      · have := PT.get_full _ _ _ _ hi; cases this
    have hh : ((machine P H k).any g ops ops.size (Array.replicate ops.size false) [] ⟨PT.full none 14, st.mem.next, st.mem.next⟩ st).all ρ (Out ρ ng Sx { w with drawn := w.drawn + 1 } (σ ++ []) (NoP Q)) := by
      refine T.all_mono ?_ (T.all_bind hg h)
      rintro ⟨e, st'⟩ ⟨g', hg', hn', he⟩ τ a' w' hT' hM'
      rw [List.append_nil] at hT' hM'
      cases e with
      | nor =>
        simp only [anyB2] at he
        split at he
        · rename_i hl
          exact he τ a' w' hT' (hMd.back2 hSx hM' (Nat.eq_of_beq_eq_true hl))
        · cases he
      | exit n => cases he
      | ret => cases he
      | pan v => cases he
    have hA := ha ng g ops ops.size (Array.replicate ops.size false) [] ⟨PT.full none 14, st.mem.next, st.mem.next⟩ st σ [] a { w with drawn := w.drawn + 1 } { w with drawn := w.drawn + 1 } Q Sx hg hng hns (by rw [List.append_nil]; exact hT) hM0 (by rw [List.append_nil]; exact hM1) (fun b hb => by cases hb) (fun n k y hn => by have := PT.get_full _ _ _ _ hn; cases this) hh
    refine Go.wp_mono (wp_region_held hm hA) ?_
    intro e a w hq
    cases e <;> first | exact hq | exact hq.elim
theorem drawn_step (hm : P.follows .mixedOrders = true) (hd : DrawOk P H ρ k) (ha : AnyOk P H ρ k) {ng : Nat} {g : G} {id : Nat} {ops : Array Oper} {st : St} {Q : Exit → Act → World → Prop} (hg : Gok ρ g) (hng : g.ng = ng) (hT : RT ρ σ ng st.n st.tm a) (hM : RM ρ S w0 σ st.mem w) (h : (stepDrawn P (machine P H k) g ops st).all ρ (Out ρ ng S w0 σ Q)) : (Code.region id ops true).wp P Q a w := by
  unfold stepDrawn at h
  rcases orElse_all h with h | h
  case inr => exact any2_step hm ha hg hng hT hM h
  unfold stepDrawn0 at h
  split at h
  · have hr := hd ng g ops 0 ops.toList st S w0 σ a Q hg hng (by simp) (Nat.zero_le _) ⟨w, hM⟩ hT h
    have e : ops = ops.toList.toArray := by simp
    rcases hr with ⟨n, _, hn, hB, hq⟩ | ⟨hB, hq⟩
    · rw [e]
      refine wp_region_tail (C := Cls ρ S w0 σ st.mem) n hm (by rw [← e]; exact hB) hM.drew ?_
      rw [← e]
      simpa using hq
    · rw [e]
      refine wp_region_quiet (C := Cls ρ S w0 σ st.mem) hm (by rw [← e]; exact hB) hM.drew ?_
      rw [← e]
      exact hq
  · split at h
    · cases h
    · rename_i hns
      have hns : Region.noSelect ops = true := hns
      unfold stepAnyB at h
      split at h
      · rename_i hok
        have hMd := hM.drew
        generalize hwsd : wsOf P g ops st = ws at h hok
        have hokm := okW_mem hok
        have hsome : ∀ b ∈ ws, ∃ y, σ[b]? = some y := fun b hb => by
          obtain ⟨_, k, hk, _⟩ := hokm b hb
          obtain ⟨x, c, hs, _⟩ := hM.blk b k hk
          exact ⟨_, hs⟩
        let Sx : List Nat := ws.filterMap fun b => (σ[b]?).map (·.1)
        have hSx : ∀ x, x ∈ Sx → ∃ b ∈ ws, ∃ c, σ[b]? = some (x, c) := fun x hx => by
          obtain ⟨b, hb, he⟩ := List.mem_filterMap.1 hx
          cases hy : σ[b]? with
          | none => rw [hy] at he; cases he
          | some y => rw [hy] at he; cases he; exact ⟨b, hb, y.2, hy⟩
        have hq := hMd.quiet_inS Sx
        have hq0 := hq.goneL hsome
        have hws : ∀ b ∈ ws, ∃ y, σ[b]? = some y ∧ y.1 ∈ Sx := fun b hb => by
          obtain ⟨y, hy⟩ := hsome b hb
          exact ⟨y, hy, List.mem_filterMap.2 ⟨b, hb, by rw [hy]; rfl⟩⟩
        have hdis : ∀ n k y, (goneL st.mem.quiet ws).blks.get n = some k → k.live = true → σ[n]? = some y → y.1 ∉ Sx := by
          intro n k y hn hl hy hx
          obtain ⟨hnw, hn⟩ := goneL_get hn hl
          obtain ⟨b, hb, c, hc⟩ := hSx _ hx
          obtain ⟨_, k', hk', hl', hro'⟩ := hokm b hb
          exact hM.inj n b k k' hn hk' (fun e => hnw (e ▸ hb)) hl hl' (by rw [hro', Bool.and_false]) _ _ hy hc rfl
        have hown : ∀ x ∈ Sx, w0.heap.size ≤ x ∨ x ∈ S := fun x hx => by
          obtain ⟨b, hb, c, hc⟩ := hSx x hx
          exact hM.own b x c (hokm b hb).1 hc
        have hh : ((machine P H k).any g ops ops.size (Array.replicate ops.size false) ws (goneL st.mem.quiet ws) (st.setM st.mem.quiet)).all ρ (Out ρ ng Sx { w with drawn := w.drawn + 1 } (σ ++ []) (NoP Q)) := by
          refine T.all_mono ?_ (T.all_bind hg h)
          rintro ⟨e, st'⟩ ⟨g', hg', hn', he⟩ τ a' w' hT' hM'
          rw [List.append_nil] at hT' hM'
          cases e with
          | nor =>
            simp only [anyB] at he
            split at he
            · rename_i hl
              have hl : st'.mem.lim = st.mem.next := Nat.eq_of_beq_eq_true hl
              have hb := hMd.back hown hM' hl
              exact he τ a' w' hT' hb
            · cases he
          | exit n => cases he
          | ret => cases he
          | pan v => cases he
        have hA := ha ng g ops ops.size (Array.replicate ops.size false) ws (goneL st.mem.quiet ws) (st.setM st.mem.quiet) σ [] a { w with drawn := w.drawn + 1 } { w with drawn := w.drawn + 1 } Q Sx hg hng hns (by rw [List.append_nil]; exact hT) hq0 (by rw [List.append_nil]; exact hq) hws hdis hh
        refine Go.wp_mono (wp_region_held hm hA) ?_
        intro e a w hq
        cases e <;> first | exact hq | exact hq.elim
      · cases h

def LoopOk (P : Program) (H : Hook) (ρ : Nat → Int) (k : Nat) : Prop := ∀ (ng : Nat) (g : G) (c : Code) (st : St) (S : List Nat) (w0 : World) (σ : List (Nat × Nat)) (a : Act) (w : World) (Q : Exit → Act → World → Prop),
  Gok ρ g → g.ng = ng → RT ρ σ ng st.n st.tm a → RM ρ S w0 σ st.mem w → ((machine P H k).code g (.loop c) st).all ρ (Out ρ ng S w0 σ Q) → Code.rounds P c Q k a w
theorem loop_step (hx : CodeOk P H ρ k) (hl : LoopOk P H ρ k) : LoopOk P H ρ (k + 1) := by
  intro ng g c st S w0 σ a w Q hg hng hT hM h
  have h : (((machine P H k).code g c st).bind g fun g x => seqB (machine P H k) (.loop c) g x.1 x.2).all ρ (Out ρ ng S w0 σ Q) := h
  rw [rounds_succ]
  refine hx ng g c st S w0 σ a w _ hg hng hT hM (T.all_mono ?_ (T.all_bind hg h))
  rintro ⟨e, st'⟩ ⟨g', hg', hn', he⟩ τ a' w' hT' hM'
  cases e with
  | nor => exact hl ng g' c st' S w0 (σ ++ τ) a' w' Q hg' (hn'.trans hng) hT' hM' (all_later he τ)
  | exit n => exact he τ a' w' hT' hM'
  | ret => exact he τ a' w' hT' hM'
  | pan v => exact he τ a' w' hT' hM'

theorem code_step (hm : P.follows .mixedOrders = true) (hl : ListOk P H ρ k) (hd : DrawOk P H ρ k) (ha : AnyOk P H ρ k) (hx : CodeOk P H ρ k) (hlp : LoopOk P H ρ k) : CodeOk P H ρ (k + 1) := by
  intro ng g c st S w0 σ a w Q hg hng hT hM h0
  have h : (stepCode P (machine P H k) g c st).all ρ (Out ρ ng S w0 σ Q) := h0
  cases c <;> simp only [stepCode] at h
  case skip => exact wp_skip (Out.here (r := (.nor, st)) h hT hM)
  case ret => exact wp_ret (Out.here (r := (.ret, st)) h hT hM)
  case exit n => exact wp_exit (Out.here (r := (.exit n, st)) h hT hM)
  case seq x y =>
    refine wp_seq (hx ng g x st S w0 σ a w _ hg hng hT hM (T.all_mono ?_ (T.all_bind hg h)))
    rintro ⟨e, st'⟩ ⟨g', hg', hn', he⟩ τ a' w' hT' hM'
    cases e with
    | nor => exact hx ng g' y st' S w0 (σ ++ τ) a' w' Q hg' (hn'.trans hng) hT' hM' (all_later he τ)
    | exit n => exact he τ a' w' hT' hM'
    | ret => exact he τ a' w' hT' hM'
    | pan v => exact he τ a' w' hT' hM'
  case cond x y z =>
    unfold stepCond at h
    split at h
    · rename_i hv
      exact wp_cond_true (den_bool (ev_den (g := g) (by subst hng; exact hT) hv)) (hx ng g y st S w0 σ a w Q hg hng hT hM h)
    · rename_i hv
      exact wp_cond_false (den_bool (ev_den (g := g) (by subst hng; exact hT) hv)) (hx ng g z st S w0 σ a w Q hg hng hT hM h)
    · rename_i p hv
      split at h
      · rename_i t
        obtain ⟨ht, he⟩ := brG_all hg h
        have hev := den_bool (ev_den (g := g) (by subst hng; exact hT) hv)
        cases hp : p.val ρ with
        | true =>
          obtain ⟨g', hg', hn', h2⟩ := ht hp
          exact wp_cond_true (by rw [hev]; simp only [DB.val, hp]) (hx ng g' y (refine st t true) S w0 σ a w Q hg' (hn'.trans hng) (by subst hng; exact hT.refine hv hp) hM h2)
        | false =>
          obtain ⟨g', hg', hn', h2⟩ := he hp
          exact wp_cond_false (by rw [hev]; simp only [DB.val, hp]) (hx ng g' z (refine st t false) S w0 σ a w Q hg' (hn'.trans hng) (by subst hng; exact hT.refine hv hp) hM h2)
      · cases h
    · cases h
  case block n x =>
    refine wp_block (hx ng g x st S w0 σ a w _ hg hng hT hM (T.all_mono ?_ (T.all_bind hg h)))
    rintro ⟨e, st'⟩ ⟨g', hg', hn', he⟩ τ a' w' hT' hM'
    cases e with
    | nor => exact he τ a' w' hT' hM'
    | exit n' =>
      simp only [blockB] at he
      show (if n' = n then Q .normal a' w' else Q (.exit n') a' w')
      split at he
      · rename_i hb
        rw [if_pos (Nat.eq_of_beq_eq_true hb)]
        exact he τ a' w' hT' hM'
      · rename_i hb
        rw [if_neg (fun e => by subst e; simp at hb)]
        exact he τ a' w' hT' hM'
    | ret => exact he τ a' w' hT' hM'
    | pan v => exact he τ a' w' hT' hM'
  case loop x => exact wp_loop_rounds (k + 1) (loop_step hx hlp ng g x st S w0 σ a w Q hg hng hT hM h0)
  case region id ops d =>
    cases d with
    | false =>
      simp only at h
      refine wp_region_list ?_
      have := hl ng g ops.toList ops.toList st S w0 σ a w Q hg hng hT hM h
      simpa using this
    | true =>
      simp only at h
      exact drawn_step hm hd ha hg hng hT hM h
  all_goals cases h

theorem init_get {xs : List Value} : ∀ (n : Nat) (args : List V) (ys : List Value) (t : TM) (i : Nat), denL ρ σ args = some ys → i + args.length ≤ n → xs.drop i = ys →
    (∀ j v, t.get j = some v → den ρ σ v = some (if j < i then xs.getD j undef else undef)) → ∀ j v, (initTm n t i args).get j = some v → den ρ σ v = some (xs.getD j undef)
  | n, [], ys, t, i, hd, hi, hx, ht, j, v, hj => by
    rw [denL_nil] at hd; cases hd
    simp only [initTm] at hj
    have := ht j v hj
    split at this
    · exact this
    · rename_i hge
      have hl : xs.length ≤ i := by
        rcases Nat.lt_or_ge i xs.length with h | h
        · have := List.length_drop (i := i) (l := xs); rw [hx] at this; simp at this; omega
        · exact h
      rw [this, List.getD_eq_getElem?_getD, List.getElem?_eq_none (by omega)]
      rfl
  | n, u :: args, ys, t, i, hd, hi, hx, ht, j, v, hj => by
    obtain ⟨x, z, h1, h2, rfl⟩ := denL_cons_eq hd
    simp only [List.length_cons] at hi
    simp only [initTm] at hj
    have hxi : xs[i]? = some x := by
      have := congrArg (fun l : List Value => l[0]?) hx
      simpa using this
    refine init_get n args z _ (i + 1) h2 (by omega) ?_ ?_ j v hj
    · have := congrArg List.tail hx
      simpa using this
    · intro j v hj
      have hb : Nat.blt i n = true := by
        have : i < n := by omega
        simpa using this
      have e : Sy.put n t (some i) u = t.set i u := by simp [Sy.put, hb]
      rw [e] at hj
      rcases TM.get_set _ _ _ _ _ hj with ⟨rfl, rfl⟩ | ⟨hne, hj⟩
      · rw [if_pos (by omega), List.getD_eq_getElem?_getD, hxi]; exact h1
      · have := ht j v hj
        by_cases hji : j < i
        · rw [if_pos hji] at this; rw [if_pos (by omega)]; exact this
        · rw [if_neg hji] at this; rw [if_neg (by omega)]; exact this

/-! ### deferred calls -/
theorem wpS_block {Q : Exit → Act → List Frame → World → Prop} {id : Nat} {c : Code} {a : Act} {cs : List Frame} {w : World}
    (h : c.wpS P (fun e a cs w => match e with
      | .exit id' => if id' = id then Q .normal a cs w else Q (.exit id') a cs w
      | e => Q e a cs w) a cs w) : (Code.block id c).wpS P Q a cs w := by
  intro b k hb hr
  obtain ⟨e, a₁, cs₁, w₁, hq, harr⟩ := h b (.inBlock id :: k) hb hr
  cases e with
  | normal => exact ⟨.normal, a₁, cs₁, w₁, hq, .head step_block (Steps.trans harr (.one step_inBlock))⟩
  | exit id' =>
    by_cases hid : id' = id
    · simp only [hid, if_true] at hq
      exact ⟨.normal, a₁, cs₁, w₁, hq, .head step_block (harr k (by simp [exitTo, hid]))⟩
    · simp only [hid, if_false] at hq
      refine ⟨.exit id', a₁, cs₁, w₁, hq, fun k' hk => .head step_block (harr k' ?_)⟩
      have : (id == id') = false := by simp; exact fun h => hid h.symm
      simp [exitTo, this, hk]
  | goto l => exact ⟨_, a₁, cs₁, w₁, hq, fun k' hk => .head step_block (harr k' (by simp [gotoIn, hk]))⟩
  | ret => exact ⟨_, a₁, cs₁, w₁, hq, .of_steps (.one step_block) harr⟩
  | panic ch => exact ⟨_, a₁, cs₁, w₁, hq, .of_steps (.one step_block) harr⟩
  | outgrown => exact ⟨_, a₁, cs₁, w₁, hq, .of_steps (b := b) (k := k) (cs := cs₁) (e := .outgrown) (.one step_block) harr⟩

/-- what the frame does whose deferred call runs -/
def MdF (ρ : Nat → Int) (σ : List (Nat × Nat)) (u : Md) (mo : FrameMode) : Prop := match u with
  | .retn => mo = .returning
  | .pan v => ∃ x, den ρ σ v = some x ∧ mo = .panicking [{ v := x, recovered := false }]
  | .recd v => ∃ x, den ρ σ v = some x ∧ mo = .panicking [{ v := x, recovered := true }]
theorem MdF.pre {u : Md} {mo : FrameMode} {τ : List (Nat × Nat)} (h : MdF ρ σ u mo) : MdF ρ (σ ++ τ) u mo := by
  cases u with
  | retn => exact h
  | pan v => obtain ⟨x, h1, h2⟩ := h; exact ⟨x, den_pre _ _ _ _ _ h1, h2⟩
  | recd v => obtain ⟨x, h1, h2⟩ := h; exact ⟨x, den_pre _ _ _ _ _ h1, h2⟩
def OutS (ρ : Nat → Int) (ng : Nat) (S : List Nat) (w0 : World) (σ : List (Nat × Nat)) (c0 : Frame) (cs : List Frame) (Q : Exit → Act → List Frame → World → Prop) (r : Ex × Md × St) : Prop :=
  ∀ τ a' w' mo, RT ρ (σ ++ τ) ng r.2.2.n r.2.2.tm a' → RM ρ S w0 (σ ++ τ) r.2.2.mem w' → MdF ρ (σ ++ τ) r.2.1 mo → ExR ρ (σ ++ τ) (fun e a w => Q e a ({ c0 with mode := mo } :: cs) w) a' w' r.1
theorem OutS.later {c0 : Frame} {cs : List Frame} {Q : Exit → Act → List Frame → World → Prop} {r : Ex × Md × St} (h : OutS ρ ng S w0 σ c0 cs Q r) (τ : List (Nat × Nat)) : OutS ρ ng S w0 (σ ++ τ) c0 cs Q r := by
  intro τ' a' w' mo hT hM hU
  rw [List.append_assoc] at hT hM hU ⊢
  exact h _ a' w' mo hT hM hU
theorem OutS.here {c0 : Frame} {cs : List Frame} {Q : Exit → Act → List Frame → World → Prop} {r : Ex × Md × St} (h : OutS ρ ng S w0 σ c0 cs Q r) {a : Act} {mo : FrameMode} (hT : RT ρ σ ng r.2.2.n r.2.2.tm a) (hM : RM ρ S w0 σ r.2.2.mem w) (hU : MdF ρ σ r.2.1 mo) : ExR ρ σ (fun e a w => Q e a ({ c0 with mode := mo } :: cs) w) a w r.1 := by
  have := h [] a w mo (by simpa using hT) (by simpa using hM) (by simpa using hU)
  simpa using this
theorem isRec_run (h : isRec o.op = true) (w : World) : (execOp a.eval o).run P w = .ok .recover w := by
  unfold isRec at h
  split at h
  · rename_i c hc
    split at h
    · rename_i b hb
      split at h
      · unfold execOp
        simp only [hc, resolve, hb, Sem.run_bind, Sem.run_pure, Result.andThen_ok, invoke, builtin]
      · cases h
    · cases h
  · cases h
theorem recL_ok {ops : Array Oper} {c0 : Frame} {cs : List Frame} {Q : Exit → Act → List Frame → World → Prop} {st0 : Mem} (hM0 : ∀ m, m = st0 → RM ρ S w0 σ m w) : ∀ (l : List Oper) (i : Nat) (g : G) (u : Md) (st : St) (a : Act) (mo : FrameMode),
    Gok ρ g → g.ng = ng → l = ops.toList.drop i → i ≤ ops.size → st.mem = st0 → RT ρ σ ng st.n st.tm a → MdF ρ σ u mo → (recL P ops.toList l g u st).all ρ (fun x => OutS ρ ng S w0 σ c0 cs Q (.nor, x)) →
    wpOpsS P ops Q (List.range' i (ops.size - i)) a ({ c0 with mode := mo } :: cs) w
  | [], i, g, u, st, a, mo, hg, hng, hl, hi, hm, hT, hU, h => by
    have hsz : ops.size ≤ i := by
      have := congrArg List.length hl
      simp at this; omega
    rw [show ops.size - i = 0 by omega]
    simp only [recL] at h
    exact OutS.here (r := (.nor, u, st)) h hT (hM0 _ hm) hU
  | o :: l, i, g, u, st, a, mo, hg, hng, hl, hi, hm, hT, hU, h => by
    have hM := hM0 _ hm
    have hlt : i < ops.size := by
      rcases Nat.lt_or_ge i ops.size with h1 | h1
      · exact h1
      · rw [List.drop_eq_nil_of_le (by simpa using h1)] at hl; cases hl
    have hoi : ops[i]? = some o := by
      have := congrArg (fun l : List Oper => l[0]?) hl
      simpa using this.symm
    have hdrop : l = ops.toList.drop (i + 1) := by
      have := congrArg List.tail hl
      simpa using this
    rw [show ops.size - i = (ops.size - (i + 1)) + 1 by omega, List.range'_succ]
    simp only [wpOpsS, hoi]
    simp only [recL] at h
    split at h
    · rename_i hw
      have hno := wanted_no (g := g) (by rw [hng]; exact hT) hw
      simp only [Array.toArray_toList] at hno
      rw [hno]
      simp only [Bool.false_eq_true, if_false]
      exact recL_ok hM0 l (i + 1) g u (st.res o.dst .undef) _ mo hg hng hdrop (by omega) hm (hT.put rfl) hU h
    · rename_i hw
      have hyes := wanted_yes (g := g) (by rw [hng]; exact hT) hw
      simp only [Array.toArray_toList] at hyes
      rw [hyes]
      simp only [if_true]
      split at h
      · rename_i hr
        rw [isRec_run hr w]
        simp only
        split at h
        · rename_i v
          obtain ⟨x, hx, rfl⟩ := hU
          exact recL_ok hM0 l (i + 1) g (.recd v) (st.res o.dst v) _ (.panicking [{ v := x, recovered := true }]) hg hng hdrop (by omega) hm (hT.put hx) ⟨x, hx, rfl⟩ h
        · rename_i hnp
          have hrd : recoverD ({ c0 with mode := mo } :: cs) = none := by
            cases u with
            | retn => rw [show mo = .returning from hU]; rfl
            | pan v => exact absurd rfl (hnp v)
            | recd v => obtain ⟨x, hx, rfl⟩ := hU; rfl
          rw [hrd]
          exact recL_ok hM0 l (i + 1) g u (st.res o.dst .nili) _ mo hg hng hdrop (by omega) hm (hT.put rfl) hU h
      · obtain ⟨r, ⟨g', hg', hn', hr⟩, hres⟩ := xpure_sound hg (by rw [hng]; exact hT) (T.all_bind hg h)
        have hres := hres S w0 w hM
        cases r with
        | v v =>
          obtain ⟨x, hx, hrun⟩ := hres
          rw [hrun]
          exact recL_ok hM0 l (i + 1) g' u (st.res o.dst v) _ mo hg' (hn'.trans hng) hdrop (by omega) hm (hT.put hx) hU hr
        | pan v => cases hr
        | defer v => cases hr
        | enter f args => cases hr
    · cases h
theorem leafS_ok (hx : CodeOk P H ρ k) {c0 : Frame} {cs : List Frame} {Q : Exit → Act → List Frame → World → Prop} (c : Code) (g : G) (u : Md) (st : St) (a : Act) (mo : FrameMode)
    (hg : Gok ρ g) (hng : g.ng = ng) (hT : RT ρ σ ng st.n st.tm a) (hM : RM ρ S w0 σ st.mem w) (hU : MdF ρ σ u mo) (h : (leafS P (machine P H k) c g u st).all ρ (OutS ρ ng S w0 σ c0 cs Q)) : c.wpS P Q a ({ c0 with mode := mo } :: cs) w := by
  unfold leafS at h
  split at h
  · split at h
    · rename_i _ ops d _
      split at h
      · refine wpS_region ?_
        have hb := T.all_bind hg h
        have h2 := recL_ok (c0 := c0) (cs := cs) (Q := Q) (ops := ops) (st0 := st.mem) (fun m e => by rw [e]; exact hM) ops.toList 0 g u st a mo hg hng (by simp) (by omega) rfl hT hU
          (T.all_mono (fun x hx => by obtain ⟨_, _, _, hx⟩ := hx; exact hx) hb)
        rw [List.range_eq_range']
        simpa using h2
      · cases h
    · cases h
  · refine wpS_of_wp ?_
    refine hx ng g c st S w0 σ a w _ hg hng hT hM (T.all_mono ?_ (T.all_bind hg h))
    rintro ⟨e, st'⟩ ⟨g', hg', hn', he⟩ τ a' w' hT' hM'
    exact he τ a' w' mo hT' hM' hU.pre
theorem codeS_ok (hx : CodeOk P H ρ k) {c0 : Frame} {cs : List Frame} : ∀ (c : Code) {Q : Exit → Act → List Frame → World → Prop} (g : G) (u : Md) (st : St) (σ : List (Nat × Nat)) (w : World) (a : Act) (mo : FrameMode),
    Gok ρ g → g.ng = ng → RT ρ σ ng st.n st.tm a → RM ρ S w0 σ st.mem w → MdF ρ σ u mo → (codeS P (machine P H k) c g u st).all ρ (OutS ρ ng S w0 σ c0 cs Q) → c.wpS P Q a ({ c0 with mode := mo } :: cs) w := by
  intro c
  induction c with
  | seq x y ihx ihy =>
    intro Q g u st σ w a mo hg hng hT hM hU h
    refine wpS_seq ?_
    refine ihx g u st σ w a mo hg hng hT hM hU (T.all_mono ?_ (T.all_bind hg h))
    rintro ⟨e, u', st'⟩ ⟨g', hg', hn', he⟩ τ a' w' mo' hT' hM' hU'
    cases e with
    | nor => exact ihy g' u' st' (σ ++ τ) w' a' mo' hg' (hn'.trans hng) hT' hM' hU' (T.all_mono (fun _ hr => OutS.later hr τ) he)
    | exit n => exact he τ a' w' mo' hT' hM' hU'
    | ret => exact he τ a' w' mo' hT' hM' hU'
    | pan v => intro x hx; exact he τ a' w' mo' hT' hM' hU' x hx
  | block n c ih =>
    intro Q g u st σ w a mo hg hng hT hM hU h
    refine wpS_block ?_
    refine ih g u st σ w a mo hg hng hT hM hU (T.all_mono ?_ (T.all_bind hg h))
    rintro ⟨e, u', st'⟩ ⟨g', hg', hn', he⟩ τ a' w' mo' hT' hM' hU'
    cases e with
    | nor => exact he τ a' w' mo' hT' hM' hU'
    | exit n' =>
      show (if n' = n then _ else _)
      simp only at he
      split at he
      · rename_i hb
        rw [if_pos (Nat.eq_of_beq_eq_true hb)]
        exact he τ a' w' mo' hT' hM' hU'
      · rename_i hb
        rw [if_neg (fun e => by subst e; rw [Nat.beq_refl] at hb; cases hb)]
        exact he τ a' w' mo' hT' hM' hU'
    | ret => exact he τ a' w' mo' hT' hM' hU'
    | pan v => intro x hx; exact he τ a' w' mo' hT' hM' hU' x hx
  | skip => intro Q g u st σ w a mo hg hng hT hM hU h; exact leafS_ok hx _ g u st a mo hg hng hT hM hU h
  | region _ _ _ => intro Q g u st σ w a mo hg hng hT hM hU h; exact leafS_ok hx _ g u st a mo hg hng hT hM hU h
  | cond _ _ _ => intro Q g u st σ w a mo hg hng hT hM hU h; exact leafS_ok hx _ g u st a mo hg hng hT hM hU h
  | loop _ => intro Q g u st σ w a mo hg hng hT hM hU h; exact leafS_ok hx _ g u st a mo hg hng hT hM hU h
  | rangeFunc _ _ _ _ => intro Q g u st σ w a mo hg hng hT hM hU h; exact leafS_ok hx _ g u st a mo hg hng hT hM hU h
  | exit _ => intro Q g u st σ w a mo hg hng hT hM hU h; exact leafS_ok hx _ g u st a mo hg hng hT hM hU h
  | scope _ => intro Q g u st σ w a mo hg hng hT hM hU h; exact leafS_ok hx _ g u st a mo hg hng hT hM hU h
  | label _ => intro Q g u st σ w a mo hg hng hT hM hU h; exact leafS_ok hx _ g u st a mo hg hng hT hM hU h
  | goto _ => intro Q g u st σ w a mo hg hng hT hM hU h; exact leafS_ok hx _ g u st a mo hg hng hT hM hU h
  | ret => intro Q g u st σ w a mo hg hng hT hM hU h; exact leafS_ok hx _ g u st a mo hg hng hT hM hU h
  | refuse _ => intro Q g u st σ w a mo hg hng hT hM hU h; exact leafS_ok hx _ g u st a mo hg hng hT hM hU h

theorem frame0 (hgl : Globs σ ng) {args : List V} {xs : List Value} (hargs : denL ρ σ args = some xs) (fn : Func) :
    RT ρ σ ng (max args.length fn.ntmps) (initTm (max args.length fn.ntmps) tm0 0 args) { tmps := xs.toArray ++ Array.replicate (fn.ntmps - xs.toArray.size) undef, defers := [] } := by
  have hl := denL_length hargs
  have hds : ∀ (n : Nat) (l : List V) (t : TM) (i : Nat), (initTm n t i l).ds = t.ds := by
    intro n l
    induction l with
    | nil => intro t i; rfl
    | cons v l ih =>
      intro t i
      show (initTm n (Sy.put n t (some i) v) (i + 1) l).ds = t.ds
      rw [ih]
      unfold Sy.put
      simp only
      split <;> rfl
  refine ⟨by simp [hl]; omega, ?_, by rw [hds]; exact DefR.nil, hgl⟩
  intro i v hv
  have hg := init_get (xs := xs) (max args.length fn.ntmps) args xs _ 0 hargs (by omega) (by simp) (fun j v hj => by
    have := PT.get_full (some V.undef) 10 j v hj
    simp only [Option.some.injEq] at this
    subst this
    simp only [Nat.not_lt_zero, if_false]
    rfl) i v hv
  rw [hg]
  congr 1
  rw [List.getD_eq_getElem?_getD, Array.getD_eq_getD_getElem?]
  by_cases hi : i < xs.length
  · rw [Array.getElem?_append_left (by simpa using hi)]; simp
  · rw [Array.getElem?_append_right (by simp; omega), List.getElem?_eq_none (by omega), Array.getElem?_replicate]
    split <;> rfl
/-- a panic, or none -/
def UF (ρ : Nat → Int) (σ : List (Nat × Nat)) (u : Option V) (mo : FrameMode) : Prop := MdF ρ σ (.of u) mo
theorem settle_fin {u : Md} {mo : FrameMode} (h : MdF ρ σ u mo) : UF ρ σ u.fin (settle mo) := by
  cases u with
  | retn => rw [show mo = .returning from h]; rfl
  | pan v => obtain ⟨x, h1, rfl⟩ := h; exact ⟨x, h1, rfl⟩
  | recd v => obtain ⟨x, h1, rfl⟩ := h; rfl
theorem dcall_ok (hx : CodeOk P H ρ k) (g : G) (d : V) (u : Option V) (m : Mem) (mo : FrameMode) (dx : Value) (dd : Deferred) (R : Ending → FrameMode → World → Prop) (hg : Gok ρ g) (hgl : Globs σ g.ng) (hM : RM ρ S w0 σ m w) (hU : UF ρ σ u mo) (hd : den ρ σ d = some dx) (hdd : defOf dx = some dd)
    (h : (dcall P (machine P H k) g d u m).all ρ (fun x => ∀ τ w' mo' v, RM ρ S w0 (σ ++ τ) x.2 w' → UF ρ (σ ++ τ) x.1 (settle mo') → R (.returned v) mo' w')) :
    ∃ fv cap f args, dd.target = .fn fv cap ∧ (invoke dd.target dd.args).run P w = .ok (.enter f args) w ∧ CallsD P f args mo w R := by
  unfold dcall at h
  split at h
  · rename_i f fst cap
    split at h
    · rename_i f
      split at h
      · cases h
      · rename_i fn hf
        have hf := fn_eq hf
        split at h
        · cases h
        · rename_i hn
          split at h
          · cases h
          · rename_i c hb
            simp only [den] at hd
            cases hy : denL ρ σ fst with
            | none => rw [hy] at hd; cases hd
            | some y =>
              cases hz : denL ρ σ cap with
              | none => rw [hy, hz] at hd; cases hd
              | some z =>
                rw [hy, hz] at hd
                cases hd
                cases hdd
                have hargs := denL_append hy hz
                have hn' : ¬ fn.name = "runtime.NumGoroutine" := by simpa using hn
                refine ⟨_, _, f, (y ++ z).toArray, rfl, ?_, ?_⟩
                · unfold invoke callFunc
                  simp [program, Sem.run, hf, hn', hb]
                · refine callsD_of_wpS hf hb fun c₀ cs hmo => ?_
                  have hc : c₀ = { c₀ with mode := mo } := by subst hmo; rfl
                  rw [hc]
                  rw [forceN_eq] at h
                  refine codeS_ok (ng := g.ng) hx c g (.of u) _ σ w _ mo hg rfl (frame0 hgl hargs fn) hM hU (T.all_mono ?_ (T.all_bind hg h))
                  rintro ⟨e, u', st'⟩ ⟨g', hg', hn', he⟩ τ a' w' mo' hT' hM' hU'
                  have fin : ∀ (he : (match st'.tm.ds with
                      | [] => match resultV P fn st'.tm st'.mem with
                        | some _ => T.ret (u'.fin, st'.mem)
                        | none => .bad
                      | _ :: _ => .bad : T (Option V × Mem)).all ρ (fun x => ∀ τ w' mo' v, RM ρ S w0 (σ ++ τ) x.2 w' → UF ρ (σ ++ τ) x.1 (settle mo') → R (.returned v) mo' w')),
                      a'.defers = [] ∧ ∃ u'', { c₀ with mode := mo' } :: cs = { { c₀ with mode := mo } with mode := u'' } :: cs ∧ ∃ v, (results fn a'.tmps).run P w' = .ok v w' ∧ R (.returned v) u'' w' := by
                    intro he
                    have hD := hT'.defers
                    split at he
                    · rename_i hds
                      rw [show (e, u', st').2.2.tm.ds = [] from hds] at hD
                      obtain ⟨xs, e1, e2⟩ := hD
                      rw [denL_nil] at e1
                      cases e1
                      simp only [defsOf, Option.some.injEq] at e2
                      split at he
                      · rename_i v hv
                        obtain ⟨x, hx, hr⟩ := resultV_run (g := g) hT' hM' hv
                        exact ⟨e2.symm, mo', rfl, x, hr, he τ w' mo' x hM' (settle_fin hU')⟩
                      · cases he
                    · cases he
                  cases e with
                  | nor => exact fin he
                  | ret => exact fin he
                  | pan v => cases he
                  | exit n => cases he
    · cases h
  · cases h
theorem leave_ok (hx : CodeOk P H ρ k) {fn : Func} {tm : TM} {a : Act} {R : Ending → World → Prop} : ∀ (ds : List V) (dds : List Deferred) (σ : List (Nat × Nat)) (w : World) (g : G) (u : Option V) (m : Mem) (mo : FrameMode), Gok ρ g → RT ρ σ g.ng a.tmps.size tm a → RM ρ S w0 σ m w → UF ρ σ u mo → DefR ρ σ ds dds →
    (leave P (machine P H k) fn tm ds g u m).all ρ (fun r => ∀ τ w', RM ρ S w0 (σ ++ τ) r.2 w' → FinR ρ (σ ++ τ) R w' r.1) → Leaves P fn a.tmps R dds mo w
  | [], dds, σ, w, g, u, m, mo, hg, hT, hM, hU, hD, h => by
    obtain ⟨xs, e1, e2⟩ := hD
    rw [denL_nil] at e1
    cases e1
    simp only [defsOf, Option.some.injEq] at e2
    subst e2
    unfold leave at h
    cases u with
    | some v =>
      obtain ⟨x, h1, rfl⟩ := hU
      have := h [] w (by simpa using hM)
      simp only [List.append_nil] at this
      exact this x h1
    | none =>
      rw [show mo = .returning from hU]
      simp only at h
      split at h
      · rename_i v hv
        obtain ⟨x, hx, hr⟩ := resultV_run hT hM hv
        have := h [] w (by simpa using hM)
        simp only [List.append_nil] at this
        exact ⟨x, hr, this x hx⟩
      · cases h
  | d :: ds, dds, σ, w, g, u, m, mo, hg, hT, hM, hU, hD, h => by
    obtain ⟨xs, e1, e2⟩ := hD
    obtain ⟨x, z, h1, h2, rfl⟩ := denL_cons_eq e1
    simp only [defsOf] at e2
    split at e2
    · rename_i dd hdd
      split at e2
      · rename_i dds' hdds
        cases e2
        have h : ((dcall P (machine P H k) g d u m).bind g fun g x => leave P (machine P H k) fn tm ds g x.1 x.2).all ρ _ := h
        refine ⟨?_, dcall_ok hx g d u m mo x dd _ hg hT.glob hM hU h1 hdd (T.all_mono ?_ (T.all_bind hg h))⟩
        · intro hr
          subst hr
          cases u with
          | none => cases hU
          | some v => obtain ⟨_, _, e⟩ := hU; cases e
        · rintro ⟨u', m'⟩ ⟨g', hg', hn', he⟩ τ w' mo' v hM' hU'
          refine leave_ok hx ds dds' (σ ++ τ) w' g' u' m' (settle mo') hg' (by rw [hn']; exact hT.pre) hM' hU' ⟨z, denL_pre _ _ _ _ _ h2, hdds⟩ (T.all_mono (fun r hr τ' w'' hM'' => ?_) he)
          rw [List.append_assoc] at hM'' ⊢
          exact hr _ w'' hM''
      · cases e2
    · cases e2

/-- what is known of some calls is so -/
def HookOk (P : Program) (H : Hook) (ρ : Nat → Int) : Prop := ∀ (g : G) (f : FuncId) (args : List V) (m : Mem) (t : T (Fin × Mem)) (xs : List Value) (S : List Nat) (w0 : World) (σ : List (Nat × Nat)) (w : World) (R : Ending → World → Prop),
  H g f args m = some t → Gok ρ g → Globs σ g.ng → RM ρ S w0 σ m w → denL ρ σ args = some xs → t.all ρ (fun r => ∀ τ w', RM ρ S w0 (σ ++ τ) r.2 w' → FinR ρ (σ ++ τ) R w' r.1) → Calls P f xs.toArray w R
theorem noH_ok : HookOk P noH ρ := fun _ _ _ _ _ _ _ _ _ _ _ h => by cases h
theorem call_step (hH : HookOk P H ρ) (hx : CodeOk P H ρ k) : CallOk P H ρ (k + 1) := by
  intro g f args m xs S w0 σ w R hg hgl hM hargs h
  have h : (stepCall P H (machine P H k) g f args m).all ρ _ := h
  unfold stepCall at h
  split at h
  · rename_i t ht
    exact hH g f args m t xs S w0 σ w R ht hg hgl hM hargs h
  split at h
  · cases h
  · rename_i fn hf; (try have hf := fn_eq hf)
    split at h
    · cases h
    · rename_i c hb
      refine calls_of_wp_defers hf hb ?_
      have hT := frame0 hgl hargs fn
      rw [forceN_eq] at h
      unfold stepBody at h
      refine hx g.ng g c ⟨max args.length fn.ntmps, _, m⟩ S w0 σ _ w _ hg rfl hT hM (T.all_mono ?_ (T.all_bind hg h))
      rintro ⟨e, st'⟩ ⟨g', hg', hn', he⟩ τ a' w' hT' hM'
      have hT2 : RT ρ (σ ++ τ) g'.ng a'.tmps.size st'.tm a' := by rw [hn', hT'.size]; exact hT'
      have he2 : ∀ {t : T (Fin × Mem)}, t.all ρ (fun r => ∀ τ w', RM ρ S w0 (σ ++ τ) r.2 w' → FinR ρ (σ ++ τ) R w' r.1) → t.all ρ (fun r => ∀ τ' w', RM ρ S w0 (σ ++ τ ++ τ') r.2 w' → FinR ρ (σ ++ τ ++ τ') R w' r.1) :=
        fun h => T.all_mono (fun r hr τ' w'' hM'' => by rw [List.append_assoc] at hM'' ⊢; exact hr _ w'' hM'') h
      cases e with
      | nor => exact leave_ok hx _ _ _ _ g' none _ .returning hg' hT2 hM' rfl hT'.defers (he2 he)
      | ret => exact leave_ok hx _ _ _ _ g' none _ .returning hg' hT2 hM' rfl hT'.defers (he2 he)
      | pan v =>
        intro x hx'
        exact leave_ok hx _ _ _ _ g' (some v) _ (.panicking [{ v := x, recovered := false }]) hg' hT2 hM' ⟨x, hx', rfl⟩ hT'.defers (he2 he)
      | exit n => cases he

theorem all_okH (hm : P.follows .mixedOrders = true) (hH : HookOk P H ρ) : ∀ k, CallOk P H ρ k ∧ CodeOk P H ρ k ∧ ListOk P H ρ k ∧ DrawOk P H ρ k ∧ LoopOk P H ρ k ∧ AnyOk P H ρ k
  | 0 => ⟨fun _ _ _ _ _ _ _ _ _ _ _ _ _ _ h => (h : False).elim, fun _ _ _ _ _ _ _ _ _ _ _ _ _ _ h => (h : False).elim, fun _ _ _ _ _ _ _ _ _ _ _ _ _ _ _ h => (h : False).elim,
      fun _ _ _ _ _ _ _ _ _ _ _ _ _ _ _ _ _ h => (h : False).elim, fun _ _ _ _ _ _ _ _ _ _ _ _ _ _ h => (h : False).elim, fun _ _ _ _ _ _ _ _ _ _ _ _ _ _ _ _ _ _ _ _ _ _ _ h => (h : False).elim⟩
  | k + 1 => by
    obtain ⟨h1, h2, h3, h4, h5, h6⟩ := all_okH hm hH k
    exact ⟨call_step hH h2, code_step hm h3 h4 h6 h2 h5, list_step h1 h3, draw_step h1 h3 h4, loop_step h2 h5, any_step h1 h6⟩
theorem all_ok (hm : P.follows .mixedOrders = true) (k : Nat) : CallOk P noH ρ k ∧ CodeOk P noH ρ k ∧ ListOk P noH ρ k ∧ DrawOk P noH ρ k ∧ LoopOk P noH ρ k ∧ AnyOk P noH ρ k := all_okH hm noH_ok k
end

/-- memory that has no names -/
theorem RM.none (ρ : Nat → Int) (w : World) : RM ρ [] w [] mem0 w := by
  have h0 : ∀ n k, mem0.blks.get n = some k → False := by
    intro n k h
    have := PT.get_full _ _ _ _ h
    cases this
  exact ⟨Fr.refl [] w, rfl, (fun n k h => (h0 n k h).elim), (fun n b c _ h => by cases h), (fun i j k l h => (h0 i k h).elim)⟩
theorem Fr.below {w w' : World} (h : Fr [] w w') : Below w.heap.size w w' := ⟨h.os, h.tape, h.output, h.size, fun k hk => h.block k hk (by simp)⟩
theorem globs0 (σ : List (Nat × Nat)) : Globs σ 0 := fun i hi => absurd hi (Nat.not_lt_zero i)

/-- each lies where it is said to -/
def inAll : List Int → List (Int × Int) → Prop
  | x :: xs, r :: rs => (r.1 ≤ x ∧ x ≤ r.2) ∧ inAll xs rs
  | [], [] => True
  | _, _ => False
theorem gok_of {xs : List Int} {vs : List (Int × Int)} (h : inAll xs vs) (n : Nat) : Gok (fun i => xs.getD i 0) ⟨vs, [], [], n⟩ := by
  refine ⟨?_, (fun b t h => by cases h)⟩
  show ∀ i lo hi, nthI vs i = some (lo, hi) → lo ≤ xs.getD i 0 ∧ xs.getD i 0 ≤ hi
  have key : ∀ (vs : List (Int × Int)) (xs : List Int), inAll xs vs → ∀ i lo hi, nthI vs i = some (lo, hi) → lo ≤ xs.getD i 0 ∧ xs.getD i 0 ≤ hi := by
    intro vs
    induction vs with
    | nil => intro xs h i lo hi hh; cases hh
    | cons r rs ih =>
      intro xs h i lo hi hh
      cases xs with
      | nil => exact h.elim
      | cons x xs =>
        obtain ⟨h1, h2⟩ := h
        cases i with
        | zero => cases hh; exact h1
        | succ i => exact ih xs h2 i lo hi hh
  exact key vs xs h
/-- a call of which the evaluator says that it comes to true -/
theorem calls_true {P : Program} (hm : P.follows .mixedOrders = true) (ρ : Nat → Int) (k : Nat) (f : FuncId) (args : List V) (xs : List Value) {g : G} (hg : Gok ρ g) (hng : g.ng = 0) (hargs : denL ρ [] args = some xs) (h : (xcall P k g f args mem0).allB isTrue = true) (w : World) :
    Calls P f xs.toArray w fun e w' => e = .returned (.bool true) ∧ Below w.heap.size w w' := by
  refine (all_ok hm k).1 g f args mem0 xs [] w [] w _ hg (by rw [hng]; exact globs0 _) (RM.none ρ w) hargs (T.all_mono ?_ (T.all_of_allB h))
  rintro ⟨e, m⟩ he τ w' hM
  cases e with
  | pan v => cases he
  | ret v =>
    cases v with
    | bool b =>
      cases b with
      | s b =>
        intro x hx
        cases (den_bool hx)
        simp only [isTrue] at he
        subst he
        exact ⟨rfl, hM.fr.below⟩
      | d b => cases he
    | _ => cases he

theorem skel_all {ρ : Nat → Int} : ∀ {t : T (Fin × Mem)}, (skel t).holds ρ → t.all ρ (fun r => ∃ b : DB, r.1 = .ret (.bool b) ∧ b.val ρ = true)
  | .ret (.ret v, m), h => by
    cases v with
    | bool b =>
      cases b with
      | s b => cases b with
        | true => exact ⟨_, rfl, rfl⟩
        | false => exact h.elim
      | d b => exact ⟨_, rfl, h⟩
    | _ => exact h.elim
  | .ret (.pan v, m), h => h.elim
  | .br b t e, h => by
    have h2 : (b.val ρ = true → (skel t).holds ρ) ∧ (b.val ρ = false → (skel e).holds ρ) := by
      have h : (Sk.mk b (skel t) (skel e)).holds ρ := h
      unfold Sk.mk at h
      split at h
      · rename_i h1 h2; rw [h1, h2]; exact ⟨fun _ => trivial, fun _ => trivial⟩
      · exact h
    exact ⟨fun hb => skel_all (h2.1 hb), fun hb => skel_all (h2.2 hb)⟩
  | .alt t e, h => by
    have h2 : (skel t).holds ρ ∧ (skel e).holds ρ := by
      have h : (Sk.both (skel t) (skel e)).holds ρ := h
      unfold Sk.both at h
      split at h
      · rename_i h1 h2; rw [h1, h2]; exact ⟨trivial, trivial⟩
      · exact h
    exact ⟨skel_all h2.1, skel_all h2.2⟩
  | .bad, h => h.elim
/-- a call of which the evaluator says what has to be shown -/
theorem calls_sk {P : Program} (hm : P.follows .mixedOrders = true) (ρ : Nat → Int) (k : Nat) (f : FuncId) (args : List V) (xs : List Value) {g : G} (hg : Gok ρ g) (hng : g.ng = 0) (hargs : denL ρ [] args = some xs) (sk : Sk) (h : skel (xcall P k g f args mem0) = sk) (hs : sk.holds ρ) (w : World) :
    Calls P f xs.toArray w fun e w' => e = .returned (.bool true) ∧ Below w.heap.size w w' := by
  subst h
  refine (all_ok hm k).1 g f args mem0 xs [] w [] w _ hg (by rw [hng]; exact globs0 _) (RM.none ρ w) hargs (T.all_mono ?_ (skel_all hs))
  rintro ⟨e, m⟩ ⟨b, he, hb⟩ τ w' hM
  simp only at he
  subst he
  intro x hx
  cases (den_bool hx)
  rw [hb]
  exact ⟨rfl, hM.fr.below⟩
end Go.Proofs.Ythndnammnnallaa.Sy
