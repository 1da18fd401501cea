/- The evaluator over memory known by name is sound: calls, statements, regions. -/
import Derived.Test.YtkjfhkhcoenanaaSymL
import Derived.LoopN
namespace Go.Proofs.Ytkjfhkhcoenanaa.Sy
open Go.RowKit

/-- what a function ends with -/
def FinR (σ : List (Nat × Nat)) (R : Ending → World → Prop) (w : World) : Fin → Prop
  | .ret v => ∀ x, den σ v = some x → R (.returned x) w
  | .pan v => ∀ x, den σ v = some x → R (.panicked [{ v := x, recovered := false }]) w
/-- what a statement ends with -/
def ExR (σ : List (Nat × Nat)) (Q : Exit → Act → World → Prop) (a : Act) (w : World) : Ex → Prop
  | .nor => Q .normal a w
  | .exit n => Q (.exit n) a w
  | .ret => Q .ret a w
  | .pan v => ∀ x, den σ v = some x → Q (.panic [{ v := x, recovered := false }]) a w

/-- the way that is gone -/
def T.pick {α : Type} : T α → Option α
  | .ret a => some a
  | .br b t e => match b with
    | true => t.pick
    | false => e.pick
  | .bad => none
theorem T.all_pick {α : Type} {Q : α → Prop} : ∀ {t : T α}, t.all Q → ∃ a, t.pick = some a ∧ Q a
  | .ret a, h => ⟨a, rfl, h⟩
  | .br b t e, h => by
    cases b with
    | true => obtain ⟨a, h1, h2⟩ := T.all_pick (t := t) (h.1 rfl); exact ⟨a, h1, h2⟩
    | false => obtain ⟨a, h1, h2⟩ := T.all_pick (t := e) (h.2 rfl); exact ⟨a, h1, h2⟩
  | .bad, h => h.elim
theorem T.pick_all {α : Type} {Q : α → Prop} : ∀ {t : T α} {a : α}, t.pick = some a → Q a → t.all Q
  | .ret a, _, h, k => by cases h; exact k
  | .br b t e, _, h, k => by
    cases b with
    | true => exact ⟨(fun _ => T.pick_all (t := t) h k), (fun h => by cases h)⟩
    | false => exact ⟨(fun h => by cases h), (fun _ => T.pick_all (t := e) h k)⟩
  | .bad, _, h, _ => by cases h

def CallOk (P : Program) (k : Nat) : Prop := ∀ (f : FuncId) (args : List V) (m : Mem) (xs : List Value) (S : List Nat) (w0 : World) (σ : List (Nat × Nat)) (w : World) (R : Ending → World → Prop),
  RM S w0 σ m w → denL σ args = some xs → (xcall P k f args m).all (fun r => ∀ τ w', RM S w0 (σ ++ τ) r.2 w' → FinR (σ ++ τ) R w' r.1) → Calls P f xs.toArray w R
/-- what is owed of what comes behind a statement -/
def Out (S : List Nat) (w0 : World) (σ : List (Nat × Nat)) (Q : Exit → Act → World → Prop) (r : Ex × St) : Prop :=
  ∀ τ a' w', RT (σ ++ τ) r.2.n r.2.tm a' → RM S w0 (σ ++ τ) r.2.mem w' → ExR (σ ++ τ) Q a' w' r.1
def CodeOk (P : Program) (k : Nat) : Prop := ∀ (c : Code) (st : St) (S : List Nat) (w0 : World) (σ : List (Nat × Nat)) (a : Act) (w : World) (Q : Exit → Act → World → Prop),
  RT σ st.n st.tm a → RM S w0 σ st.mem w → (xcode P k c st).all (Out S w0 σ Q) → c.wp P Q a w
def ListOk (P : Program) (k : Nat) : Prop := ∀ (ops rest : List Oper) (st : St) (S : List Nat) (w0 : World) (σ : List (Nat × Nat)) (a : Act) (w : World) (Q : Exit → Act → World → Prop),
  RT σ st.n st.tm a → RM S w0 σ st.mem w → (xlist P k ops rest st).all (Out S w0 σ Q) → wpList P ops.toArray Q rest a w

section
variable {S : List Nat} {w0 w w' : World} {σ : List (Nat × Nat)} {m m' : Mem} {P : Program} {n : Nat} {tm : PT V} {a : Act} {o : Oper} {k : Nat}

theorem Out.later {Q : Exit → Act → World → Prop} {r : Ex × St} (h : Out S w0 σ Q r) (τ : List (Nat × Nat)) : Out S w0 (σ ++ τ) Q r := by
  intro τ' a' w' hT hM
  rw [List.append_assoc] at hT hM ⊢
  exact h _ a' w' hT hM
theorem Out.here {Q : Exit → Act → World → Prop} {r : Ex × St} (h : Out S w0 σ Q r) {a : Act} (hT : RT σ r.2.n r.2.tm a) (hM : RM S w0 σ r.2.mem w) : ExR σ Q a w r.1 := by
  have := h [] a w (by simpa using hT) (by simpa using hM)
  simpa using this

theorem list_step (hc : CallOk P k) (hl : ListOk P k) : ListOk P (k + 1) := by
  intro ops rest st S w0 σ a w Q hT hM h
  cases rest with
  | nil =>
    unfold xlist at h
    exact Out.here (r := (.nor, st)) h hT hM
  | cons o rest =>
    unfold xlist at h
    split at h
    · cases h
    · rename_i hw
      unfold wpList
      rw [if_neg (by rw [wanted_no hT hw]; decide)]
      exact hl ops rest { st with tm := Sy.put st.n st.tm o.dst .undef } S w0 σ _ w Q (hT.put rfl) hM h
    · rename_i j b hw
      have hs := wanted_ask hw
      cases b with
      | true => exact hl ops (o :: rest) { st with tm := Sy.put st.n st.tm (some j) (.bool (.s true)) } S w0 σ a w Q (hT.refine hs rfl) hM (h.1 rfl)
      | false => exact hl ops (o :: rest) { st with tm := Sy.put st.n st.tm (some j) (.bool (.s false)) } S w0 σ a w Q (hT.refine hs rfl) hM (h.2 rfl)
    · rename_i hw
      unfold wpList
      rw [if_pos (wanted_yes hT hw)]
      refine .inl ?_
      split at h
      · split at h
        · rename_i v m2 hmem
          obtain ⟨τ, w', x, h1, h2, h3⟩ := xmem_sound hT hM hmem
          have hn := hl ops rest { st with tm := Sy.put st.n st.tm o.dst v, mem := m2 } S w0 (σ ++ τ) _ w' Q (hT.pre.put h2) h1 (T.all_mono (fun r hr => Out.later hr τ) h)
          unfold Oper.wp
          rcases h3 with h3 | ⟨h3, hx⟩
          · rw [h3]; exact hn
          · rw [h3]; rw [hx] at hn; exact hn
        · cases h
      · obtain ⟨r, hr, hres⟩ := xpure_sound hT (T.all_bind h)
        have hres := hres S w0 w hM
        unfold Oper.wp
        cases r with
        | val v =>
          obtain ⟨x, hx, hrun⟩ := hres
          rw [hrun]
          exact hl ops rest { st with tm := Sy.put st.n st.tm o.dst v } S w0 σ _ w Q (hT.put hx) hM hr
        | pan v =>
          obtain ⟨x, hx, hrun⟩ := hres
          rw [hrun]
          exact Out.here (r := (.pan v, st)) hr hT hM x hx
        | enter f args =>
          obtain ⟨xs, hx, hrun⟩ := hres
          rw [hrun]
          refine hc f args st.mem xs S w0 σ w _ hM hx (T.all_mono ?_ (T.all_bind hr))
          rintro ⟨e, m2⟩ he τ w' hM'
          cases e with
          | ret v =>
            intro x hx
            exact hl ops rest { st with tm := Sy.put st.n st.tm o.dst v, mem := m2 } S w0 (σ ++ τ) _ w' Q (hT.pre.put hx) hM' (T.all_mono (fun r hr => Out.later hr τ) he)
          | pan v =>
            intro x hx
            exact he τ a w' hT.pre hM' x hx

/-- a call that only adds to memory: what was known of it stands -/
theorem RM.quiet_in (hM : RM S w0 σ m w) : RM [] w σ m.quiet w := by
  refine ⟨Fr.refl [] w, hM.len, hM.blk, ?_, hM.inj⟩
  intro n k hn hlim
  have := name_lt hM hn
  exact absurd hlim (by simp only [Mem.quiet]; omega)
theorem RM.quiet_out {τ : List (Nat × Nat)} (hM : RM S w0 σ m w) (h : RM [] w τ m' w') : RM S w0 σ m w' := by
  have hb : ∀ i, i < w.heap.size → w'.heap[i]? = w.heap[i]? := fun i hi => h.fr.block i hi (by simp)
  refine ⟨⟨h.fr.os.trans hM.fr.os, h.fr.tape.trans hM.fr.tape, h.fr.output.trans hM.fr.output, Nat.le_trans hM.fr.size h.fr.size, fun k hk hs => (hb k (Nat.lt_of_lt_of_le hk hM.fr.size)).trans (hM.fr.block k hk hs)⟩, hM.len, ?_, hM.own, hM.inj⟩
  intro n k hn
  obtain ⟨b, c, hs, hh⟩ := hM.blk n k hn
  exact ⟨b, c, hs, holds_at hh (fun hl => hb b (holds_lt hh hl))⟩
theorem RM.drew (hM : RM S w0 σ m w) : RM S w0 σ m { w with drawn := w.drawn + 1 } :=
  ⟨⟨hM.fr.os, hM.fr.tape, hM.fr.output, hM.fr.size, hM.fr.block⟩, hM.len, hM.blk, hM.own, hM.inj⟩

/-- the class of worlds of which memory says the same -/
def Cls (S : List Nat) (w0 : World) (σ : List (Nat × Nat)) (m : Mem) (w : World) : Prop := RM S w0 σ m w

def DrawOk (P : Program) (k : Nat) : Prop := ∀ (ops : Array Oper) (i : Nat) (rest : List Oper) (st : St) (S : List Nat) (w0 : World) (σ : List (Nat × Nat)) (a : Act) (Q : Exit → Act → World → Prop),
  rest = ops.toList.drop i → i ≤ ops.size → (∃ w, RM S w0 σ st.mem w) → RT σ st.n st.tm a → (xdraw P k ops i rest st).all (Out S w0 σ Q) →
  (∃ n, i ≤ n ∧ n ≤ ops.size ∧ Region.lexTailB .any ops n = true ∧ wpQuiet P ops (Cls S w0 σ st.mem) (fun a' => ∀ w', Cls S w0 σ st.mem w' → wpList P ops Q (ops.toList.drop n) a' w') ((ops.toList.take n).drop i) a) ∨
  (Region.lexB .any ops = true ∧ wpQuiet P ops (Cls S w0 σ st.mem) (fun a' => ∀ w', Cls S w0 σ st.mem w' → Q .normal a' w') rest a)

theorem draw_step (hc : CallOk P k) (hl : ListOk P k) (hd : DrawOk P k) : DrawOk P (k + 1) := by
  intro ops i rest st S w0 σ a Q hrest hi hne hT h
  cases rest with
  | nil =>
    unfold xdraw at h
    split at h
    · rename_i hB
      refine .inr ⟨hB, ?_⟩
      intro w' hM
      exact Out.here (r := (.nor, st)) h hT hM
    · cases h
  | cons o rest =>
    have hlt : i < ops.size := by
      rcases Nat.lt_or_ge i ops.size with h1 | h1
      · exact h1
      · rw [List.drop_eq_nil_of_le (by simpa using h1)] at hrest; cases hrest
    have hdrop : rest = ops.toList.drop (i + 1) := by
      have := congrArg List.tail hrest
      simpa using this
    have htl : ∀ n, i < n → n ≤ ops.size → (ops.toList.take n).drop i = o :: (ops.toList.take n).drop (i + 1) := by
      intro n hn hns
      have h1 : (ops.toList.take n).drop i = (ops.toList.drop i).take (n - i) := by rw [List.drop_take]
      have h2 : (ops.toList.take n).drop (i + 1) = (ops.toList.drop (i + 1)).take (n - (i + 1)) := by rw [List.drop_take]
      rw [h1, h2, ← hrest, ← hdrop, show n - i = (n - (i + 1)) + 1 by omega, List.take_succ_cons]
    -- one quiet operation, then the rest
    have go : ∀ {st' : St} {v : V} {x : Value}, st' = { st with tm := Sy.put st.n st.tm o.dst v } → den σ v = some x → Region.wanted o (yielded ops a.tmps) = true → (∀ w, Cls S w0 σ st.mem w → o.quietAt P a (Cls S w0 σ st.mem) w x) → (xdraw P k ops (i + 1) rest st').all (Out S w0 σ Q) →
        (∃ n, i ≤ n ∧ n ≤ ops.size ∧ Region.lexTailB .any ops n = true ∧ wpQuiet P ops (Cls S w0 σ st.mem) (fun a' => ∀ w', Cls S w0 σ st.mem w' → wpList P ops Q (ops.toList.drop n) a' w') ((ops.toList.take n).drop i) a) ∨
        (Region.lexB .any ops = true ∧ wpQuiet P ops (Cls S w0 σ st.mem) (fun a' => ∀ w', Cls S w0 σ st.mem w' → Q .normal a' w') (o :: rest) a) := by
      intro st' v x e hx hwant hq hh
      subst e
      rcases hd ops (i + 1) rest { st with tm := Sy.put st.n st.tm o.dst v } S w0 σ (a.put o.dst x) Q hdrop (by omega) hne (hT.put hx) hh with ⟨n, h1, h2, h3, h4⟩ | ⟨h3, h4⟩
      · refine .inl ⟨n, by omega, h2, h3, ?_⟩
        rw [htl n (by omega) h2]
        unfold wpQuiet
        rw [if_pos hwant]
        exact ⟨x, hq, h4⟩
      · refine .inr ⟨h3, ?_⟩
        unfold wpQuiet
        rw [if_pos hwant]
        exact ⟨x, hq, h4⟩
    have tail : Region.lexTailB .any ops i = true → (xlist P k ops.toList (o :: rest) st).all (Out S w0 σ Q) →
        (∃ n, i ≤ n ∧ n ≤ ops.size ∧ Region.lexTailB .any ops n = true ∧ wpQuiet P ops (Cls S w0 σ st.mem) (fun a' => ∀ w', Cls S w0 σ st.mem w' → wpList P ops Q (ops.toList.drop n) a' w') ((ops.toList.take n).drop i) a) := by
      intro hB hh
      refine ⟨i, Nat.le_refl _, hi, hB, ?_⟩
      have e : (ops.toList.take i).drop i = [] := List.drop_eq_nil_of_le (by simp; omega)
      rw [e]
      intro w' hM
      rw [← hrest]
      have := hl ops.toList (o :: rest) st S w0 σ a w' Q hT hM hh
      simpa using this
    unfold xdraw at h
    split at h
    · cases h
    · rename_i hw
      have hno := wanted_no hT hw
      simp only [Array.toArray_toList] at hno
      rcases hd ops (i + 1) rest { st with tm := Sy.put st.n st.tm o.dst .undef } S w0 σ (a.put o.dst undef) Q hdrop (by omega) hne (hT.put rfl) h with ⟨n, h1, h2, h3, h4⟩ | ⟨h3, h4⟩
      · refine .inl ⟨n, by omega, h2, h3, ?_⟩
        rw [htl n (by omega) h2]
        unfold wpQuiet
        rw [if_neg (by rw [hno]; decide)]
        exact h4
      · refine .inr ⟨h3, ?_⟩
        unfold wpQuiet
        rw [if_neg (by rw [hno]; decide)]
        exact h4
    · rename_i j b hw
      have hs := wanted_ask hw
      cases b with
      | true => exact hd ops i (o :: rest) { st with tm := Sy.put st.n st.tm (some j) (.bool (.s true)) } S w0 σ a Q hrest hi hne (hT.refine hs rfl) (h.1 rfl)
      | false => exact hd ops i (o :: rest) { st with tm := Sy.put st.n st.tm (some j) (.bool (.s false)) } S w0 σ a Q hrest hi hne (hT.refine hs rfl) (h.2 rfl)
    · rename_i hw
      have hyes := wanted_yes hT hw
      simp only [Array.toArray_toList] at hyes
      split at h
      · split at h
        · rename_i hB; exact .inl (tail hB h)
        · cases h
      · obtain ⟨r, hr, hres⟩ := xpure_sound hT (T.all_bind h)
        cases r with
        | val v =>
          obtain ⟨w, hM⟩ := hne
          obtain ⟨x, hx, hrun⟩ := hres S w0 w hM
          refine go rfl hx hyes (fun w2 hM2 => ?_) hr
          obtain ⟨x2, hx2, hrun2⟩ := hres S w0 w2 hM2
          rw [hx] at hx2; cases hx2
          unfold Oper.quietAt
          rw [hrun2]
          exact ⟨rfl, rfl⟩
        | pan v => cases hr
        | enter f args =>
          simp only at hr
          split at hr
          · rename_i hq
            have hboth := T.all_and (T.all_of_allB hq) (T.all_bind hr)
            obtain ⟨⟨e, m2⟩, hpick, hqe, hre⟩ := T.all_pick hboth
            cases e with
            | pan v => cases hqe
            | ret v =>
              simp only [quietB] at hqe
              simp only at hre
              obtain ⟨w, hM⟩ := hne
              obtain ⟨xs, hxs, hrun⟩ := hres S w0 w hM
              have call : ∀ (R : Ending → World → Prop) (w2 : World), RM S w0 σ st.mem w2 → (∀ τ w', RM [] w2 (σ ++ τ) m2 w' → FinR (σ ++ τ) R w' (.ret v)) → Calls P f xs.toArray w2 R :=
                fun R w2 hM2 hR => hc f args st.mem.quiet xs [] w2 σ w2 R hM2.quiet_in hxs (T.pick_all hpick hR)
              cases hv : den σ v with
              | none =>
                exfalso
                have := call (fun _ _ => False) w hM (fun τ w' hM' x hx => by
                  rw [den_back σ τ _ hM.len v x hqe hx] at hv; cases hv)
                obtain ⟨_, _, _, hf, _⟩ := this []
                exact hf
              | some x =>
                refine go rfl hv hyes (fun w2 hM2 => ?_) hre
                obtain ⟨xs2, hxs2, hrun2⟩ := hres S w0 w2 hM2
                rw [hxs] at hxs2; cases hxs2
                unfold Oper.quietAt
                rw [hrun2]
                refine ⟨rfl, call _ w2 hM2 ?_⟩
                intro τ w' hM' x' hx'
                have := den_back σ τ _ hM.len v x' hqe hx'
                rw [hv] at this; cases this
                exact ⟨rfl, hM2.quiet_out hM'⟩
          · split at hr
            · rename_i hB; exact .inl (tail hB hr)
            · cases hr

def LoopOk (P : Program) (k : Nat) : Prop := ∀ (c : Code) (st : St) (S : List Nat) (w0 : World) (σ : List (Nat × Nat)) (a : Act) (w : World) (Q : Exit → Act → World → Prop),
  RT σ st.n st.tm a → RM S w0 σ st.mem w → (xcode P k (.loop c) st).all (Out S w0 σ Q) → Code.rounds P c Q k a w
theorem loop_step (hx : CodeOk P k) (hl : LoopOk P k) : LoopOk P (k + 1) := by
  intro c st S w0 σ a w Q hT hM h
  simp only [xcode] at h
  rw [rounds_succ]
  refine hx c st S w0 σ a w _ hT hM (T.all_mono ?_ (T.all_bind h))
  rintro ⟨e, st'⟩ he τ a' w' hT' hM'
  cases e with
  | nor => exact hl c st' S w0 (σ ++ τ) a' w' Q hT' hM' (T.all_mono (fun r hr => Out.later hr τ) he)
  | exit n => exact he τ a' w' hT' hM'
  | ret => exact he τ a' w' hT' hM'
  | pan v => exact he τ a' w' hT' hM'

theorem code_step (hm : P.follows .mixedOrders = true) (hl : ListOk P k) (hd : DrawOk P k) (hx : CodeOk P k) (hlp : LoopOk P k) : CodeOk P (k + 1) := by
  intro c st S w0 σ a w Q hT hM h0
  have h := h0
  cases c <;> simp only [xcode] at h
  case skip => exact wp_skip (Out.here (r := (.nor, st)) h hT hM)
  case ret => exact wp_ret (Out.here (r := (.ret, st)) h hT hM)
  case exit n => exact wp_exit (Out.here (r := (.exit n, st)) h hT hM)
  case seq x y =>
    refine wp_seq (hx x st S w0 σ a w _ hT hM (T.all_mono ?_ (T.all_bind h)))
    rintro ⟨e, st'⟩ he τ a' w' hT' hM'
    cases e with
    | nor => exact hx y st' S w0 (σ ++ τ) a' w' Q hT' hM' (T.all_mono (fun r hr => Out.later hr τ) he)
    | exit n => exact he τ a' w' hT' hM'
    | ret => exact he τ a' w' hT' hM'
    | pan v => exact he τ a' w' hT' hM'
  case cond x y z =>
    split at h
    · rename_i hv
      exact wp_cond_true (den_bool (ev_den hT hv)) (hx y st S w0 σ a w Q hT hM h)
    · rename_i hv
      exact wp_cond_false (den_bool (ev_den hT hv)) (hx z st S w0 σ a w Q hT hM h)
    · rename_i p hv
      split at h
      · rename_i t
        cases p with
        | true => exact wp_cond_true (den_bool (ev_den hT hv)) (hx y { st with tm := Sy.put st.n st.tm (some t) (.bool (.s true)) } S w0 σ a w Q (hT.refine hv rfl) hM (h.1 rfl))
        | false => exact wp_cond_false (den_bool (ev_den hT hv)) (hx z { st with tm := Sy.put st.n st.tm (some t) (.bool (.s false)) } S w0 σ a w Q (hT.refine hv rfl) hM (h.2 rfl))
      · cases h
    · cases h
  case block n x =>
    refine wp_block (hx x st S w0 σ a w _ hT hM (T.all_mono ?_ (T.all_bind h)))
    rintro ⟨e, st'⟩ he τ a' w' hT' hM'
    cases e with
    | nor => exact he τ a' w' hT' hM'
    | exit n' =>
      simp only at he
      show (if n' = n then Q .normal a' w' else Q (.exit n') a' w')
      split at he
      · rename_i hb
        rw [if_pos (Nat.eq_of_beq_eq_true hb)]
        exact he τ a' w' hT' hM'
      · rename_i hb
        rw [if_neg (fun e => by subst e; simp at hb)]
        exact he τ a' w' hT' hM'
    | ret => exact he τ a' w' hT' hM'
    | pan v => exact he τ a' w' hT' hM'
  case loop x => exact wp_loop_rounds (k + 1) (loop_step hx hlp x st S w0 σ a w Q hT hM h0)
  case region id ops d =>
    cases d with
    | false =>
      simp only at h
      refine wp_region_list ?_
      have := hl ops.toList ops.toList st S w0 σ a w Q hT hM h
      simpa using this
    | true =>
      simp only at h
      have hr := hd ops 0 ops.toList st S w0 σ a Q (by simp) (Nat.zero_le _) ⟨w, hM⟩ hT h
      have e : ops = ops.toList.toArray := by simp
      rcases hr with ⟨n, _, hn, hB, hq⟩ | ⟨hB, hq⟩
      · rw [e]
        refine wp_region_tail (C := Cls S w0 σ st.mem) n hm (by rw [← e]; exact hB) hM.drew ?_
        rw [← e]
        simpa using hq
      · rw [e]
        refine wp_region_quiet (C := Cls S w0 σ st.mem) hm (by rw [← e]; exact hB) hM.drew ?_
        rw [← e]
        exact hq
  all_goals cases h

theorem init_get {xs : List Value} : ∀ (n : Nat) (args : List V) (ys : List Value) (t : PT V) (i : Nat), denL σ args = some ys → i + args.length ≤ n → xs.drop i = ys →
    (∀ j v, t.get j = some v → den σ v = some (if j < i then xs.getD j undef else undef)) → ∀ j v, (initTm n t i args).get j = some v → den σ v = some (xs.getD j undef)
  | n, [], ys, t, i, hd, hi, hx, ht, j, v, hj => by
    rw [denL_nil] at hd; cases hd
    simp only [initTm] at hj
    have := ht j v hj
    split at this
    · exact this
    · rename_i hge
      have hl : xs.length ≤ i := by
        rcases Nat.lt_or_ge i xs.length with h | h
        · have := List.length_drop (i := i) (l := xs); rw [hx] at this; simp at this; omega
        · exact h
      rw [this, List.getD_eq_getElem?_getD, List.getElem?_eq_none (by omega)]
      rfl
  | n, u :: args, ys, t, i, hd, hi, hx, ht, j, v, hj => by
    obtain ⟨x, z, h1, h2, rfl⟩ := denL_cons_eq hd
    simp only [List.length_cons] at hi
    simp only [initTm] at hj
    have hxi : xs[i]? = some x := by
      have := congrArg (fun l : List Value => l[0]?) hx
      simpa using this
    refine init_get n args z _ (i + 1) h2 (by omega) ?_ ?_ j v hj
    · have := congrArg List.tail hx
      simpa using this
    · intro j v hj
      have hb : Nat.blt i n = true := by
        have : i < n := by omega
        simpa using this
      have e : Sy.put n t (some i) u = t.set i u := by simp [Sy.put, hb]
      rw [e] at hj
      rcases PT.get_set _ _ _ _ _ hj with ⟨rfl, rfl⟩ | ⟨hne, hj⟩
      · rw [if_pos (by omega), List.getD_eq_getElem?_getD, hxi]; exact h1
      · have := ht j v hj
        by_cases hji : j < i
        · rw [if_pos hji] at this; rw [if_pos (by omega)]; exact this
        · rw [if_neg hji] at this; rw [if_neg (by omega)]; exact this

theorem call_step (hx : CodeOk P k) : CallOk P (k + 1) := by
  intro f args m xs S w0 σ w R hM hargs h
  unfold xcall at h
  split at h
  · cases h
  · rename_i fn hf
    split at h
    · cases h
    · rename_i c hb
      refine calls_of_wp hf hb ?_
      have hl := denL_length hargs
      have hT : RT σ (max args.length fn.ntmps) (initTm (max args.length fn.ntmps) (PT.full (some V.undef) 10) 0 args) { tmps := xs.toArray ++ Array.replicate (fn.ntmps - xs.toArray.size) undef, defers := [] } := by
        refine ⟨by simp [hl]; omega, ?_, rfl⟩
        intro i v hv
        have hg := init_get (xs := xs) (max args.length fn.ntmps) args xs _ 0 hargs (by omega) (by simp) (fun j v hj => by
          have := PT.get_full _ _ _ _ hj
          simp only [Option.some.injEq] at this
          subst this
          simp only [Nat.not_lt_zero, if_false]
          rfl) i v hv
        rw [hg]
        congr 1
        rw [List.getD_eq_getElem?_getD, Array.getD_eq_getD_getElem?]
        by_cases hi : i < xs.length
        · rw [Array.getElem?_append_left (by simpa using hi)]; simp
        · rw [Array.getElem?_append_right (by simp; omega), List.getElem?_eq_none (by omega), Array.getElem?_replicate]
          split <;> rfl
      refine hx c _ S w0 σ _ w _ hT hM (T.all_mono ?_ (T.all_bind h))
      rintro ⟨e, st'⟩ he τ a' w' hT' hM'
      cases e with
      | nor =>
        simp only at he
        split at he
        · rename_i v hv
          obtain ⟨x, hx, hr⟩ := resultV_run hT' hM' hv
          exact ⟨hT'.defers, x, hr, he τ w' hM' x hx⟩
        · cases he
      | ret =>
        simp only at he
        split at he
        · rename_i v hv
          obtain ⟨x, hx, hr⟩ := resultV_run hT' hM' hv
          exact ⟨hT'.defers, x, hr, he τ w' hM' x hx⟩
        · cases he
      | pan v =>
        intro x hx
        exact ⟨hT'.defers, he τ w' hM' x hx⟩
      | exit n => cases he

theorem all_ok (hm : P.follows .mixedOrders = true) : ∀ k, CallOk P k ∧ CodeOk P k ∧ ListOk P k ∧ DrawOk P k ∧ LoopOk P k
  | 0 => by
    refine ⟨?_, ?_, ?_, ?_, ?_⟩
    · intro f args m xs S w0 σ w R _ _ h
      unfold xcall at h; cases h
    · intro c st S w0 σ a w Q _ _ h
      unfold xcode at h; cases h
    · intro ops rest st S w0 σ a w Q _ _ h
      unfold xlist at h; cases h
    · intro ops i rest st S w0 σ a Q _ _ _ _ h
      unfold xdraw at h; cases h
    · intro c st S w0 σ a w Q _ _ h
      unfold xcode at h; cases h
  | k + 1 => by
    obtain ⟨h1, h2, h3, h4, h5⟩ := all_ok hm k
    exact ⟨call_step h2, code_step hm h3 h4 h2 h5, list_step h1 h3, draw_step h1 h3 h4, loop_step h2 h5⟩
end

/-- memory that has no names -/
theorem RM.none (w : World) : RM [] w [] mem0 w := by
  have h0 : ∀ n k, mem0.blks.get n = some k → False := by
    intro n k h
    have := PT.get_full _ _ _ _ h
    cases this
  exact ⟨Fr.refl [] w, rfl, fun n k h => (h0 n k h).elim, fun n k h => (h0 n k h).elim, fun i j k l h => (h0 i k h).elim⟩
theorem Fr.below {w w' : World} (h : Fr [] w w') : Below w.heap.size w w' := ⟨h.os, h.tape, h.output, h.size, fun k hk => h.block k hk (by simp)⟩

/-- a call of which the evaluator says that it comes to true -/
theorem calls_true {P : Program} (hm : P.follows .mixedOrders = true) (k : Nat) (f : FuncId) (args : List V) (xs : List Value) (hargs : denL [] args = some xs) (h : (xcall P k f args mem0).allB isTrue = true) (w : World) :
    Calls P f xs.toArray w fun e w' => e = .returned (.bool true) ∧ Below w.heap.size w w' := by
  refine (all_ok hm k).1 f args mem0 xs [] w [] w _ (RM.none w) hargs (T.all_mono ?_ (T.all_of_allB h))
  rintro ⟨e, m⟩ he τ w' hM
  cases e with
  | pan v => cases he
  | ret v =>
    cases v with
    | bool b =>
      cases b with
      | s b =>
        intro x hx
        cases (den_bool hx)
        simp only [isTrue] at he
        subst he
        exact ⟨rfl, hM.fr.below⟩
      | d b => cases he
    | _ => cases he

theorem skel_all : ∀ {t : T (Fin × Mem)}, (skel t).holds → t.all (fun r => ∃ b : DB, r.1 = .ret (.bool b) ∧ b.val = true)
  | .ret (.ret v, m), h => by
    cases v with
    | bool b =>
      cases b with
      | s b => cases b with
        | true => exact ⟨_, rfl, rfl⟩
        | false => exact h.elim
      | d b => exact ⟨_, rfl, h⟩
    | _ => exact h.elim
  | .ret (.pan v, m), h => h.elim
  | .br b t e, h => by
    have h2 : (b = true → (skel t).holds) ∧ (b = false → (skel e).holds) := by
      have h : (Sk.mk b (skel t) (skel e)).holds := h
      unfold Sk.mk at h
      split at h
      · rename_i h1 h2; rw [h1, h2]; exact ⟨fun _ => trivial, fun _ => trivial⟩
      · exact h
    exact ⟨fun hb => skel_all (h2.1 hb), fun hb => skel_all (h2.2 hb)⟩
  | .bad, h => h.elim
/-- a call of which the evaluator says what has to be shown -/
theorem calls_sk {P : Program} (hm : P.follows .mixedOrders = true) (k : Nat) (f : FuncId) (args : List V) (xs : List Value) (hargs : denL [] args = some xs) (sk : Sk) (h : skel (xcall P k f args mem0) = sk) (hs : sk.holds) (w : World) :
    Calls P f xs.toArray w fun e w' => e = .returned (.bool true) ∧ Below w.heap.size w w' := by
  subst h
  refine (all_ok hm k).1 f args mem0 xs [] w [] w _ (RM.none w) hargs (T.all_mono ?_ (skel_all hs))
  rintro ⟨e, m⟩ ⟨b, he, hb⟩ τ w' hM
  simp only at he
  subst he
  intro x hx
  cases (den_bool hx)
  rw [hb]
  exact ⟨rfl, hM.fr.below⟩
end Go.Proofs.Ytkjfhkhcoenanaa.Sy
