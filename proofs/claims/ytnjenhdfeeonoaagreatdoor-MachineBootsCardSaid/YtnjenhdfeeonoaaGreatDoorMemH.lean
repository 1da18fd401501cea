/- The evaluator over memory known by name: calls at memory that is written out, and what they make of it: each is shown by a run of its own. -/
import Derived.Test.YtnjenhdfeeonoaaGreatDoorHook
namespace Go.Proofs.YtnjenhdfeeonoaaGreatDoor.Sy
open Go.RowKit

noncomputable def orH (H1 H2 : Hook) : Hook := fun g f args m => match H1 g f args m with
  | some t => some t
  | none => H2 g f args m
theorem orH_ok {P : Program} {H1 H2 : Hook} {ρ : Nat → Int} (h1 : HookOk P H1 ρ) (h2 : HookOk P H2 ρ) : HookOk P (orH H1 H2) ρ := by
  intro g f args m t xs S w0 σ w R h
  unfold orH at h
  split at h
  · rename_i t' ht
    cases h
    exact h1 g f args m t xs S w0 σ w R ht
  · exact h2 g f args m t xs S w0 σ w R h
/-- memory that is written out -/
noncomputable def memL (l : List (Option Blk)) (nx lim : Nat) : Mem := ⟨PT.ofO 14 l, nx, lim⟩
/-- does memory hold what is written? -/
noncomputable def memLe (l : List (Option Blk)) (lim : Nat) (m : Mem) : Bool := Nat.beq l.length m.next && Nat.beq lim m.lim && brens (vren m.next m.next []) (PT.ofO 14 l) m.blks (idTs [] m.next 0) 0
/-- a call where these tests hold: the function, its arguments, memory ahead of it; by tests: the answer, memory behind it -/
structure ME where
  pc : List (B × Bool)
  f : FuncId
  args : List V
  l : List (Option Blk)
  lim : Nat
  t : T (V × List (Option Blk))
noncomputable def resB (v : V) (l' : List (Option Blk)) (lim : Nat) : Fin × Mem → Bool
  | (.ret u, m) => vren m.next m.next [] v u && memLe l' lim m
  | (.pan _, _) => false
/-- a run from a call's memory: all that comes is this -/
noncomputable def runM (P : Program) (H : Hook) (k : Nat) (g : G) (f : FuncId) (args : List V) (l : List (Option Blk)) (lim : Nat) (v : V) (l' : List (Option Blk)) : Bool := forceN l.length fun nx => (xcallH P H k g f args (memL l nx lim)).allB (resB v l' lim)
noncomputable def treeM (lim : Nat) : T (V × List (Option Blk)) → T (Fin × Mem)
  | .ret (v, l') => forceN l'.length fun nx => .ret (.ret v, memL l' nx lim)
  | .br b x y => .br b (treeM lim x) (treeM lim y)
  | .alt x y => .alt (treeM lim x) (treeM lim y)
  | .bad => .bad
noncomputable def pcOk (g : G) : List (B × Bool) → Bool
  | [] => true
  | (b, t) :: l => (match g.dec b with
    | some t' => Bool.rec (Bool.rec true false t') (Bool.rec false true t') t
    | none => false) && pcOk g l
noncomputable def findM (g : G) (f : FuncId) (args : List V) (m : Mem) : List ME → Option (T (Fin × Mem))
  | [] => none
  | e :: l => match Nat.beq e.f f && vrens m.next m.next [] e.args args && memLe e.l e.lim m && pcOk g e.pc with
    | true => some (treeM e.lim e.t)
    | false => findM g f args m l
noncomputable def hookM (ng : Nat) (ents : List ME) : Hook := fun g f args m => match Nat.beq g.ng ng with
  | true => findM g f args m ents
  | false => none
section
variable {P : Program} {ρ : Nat → Int} {σ : List (Nat × Nat)} {S : List Nat} {w0 w w' : World} {m : Mem} {ng : Nat} {gl : List (Nat × IntKind × List Int)} {H : Hook}
theorem ren_id {nx b : Nat} (h : b < nx) : ren nx [] b = b := by
  unfold ren
  rw [show Nat.blt b nx = true from by simpa using h]
theorem memLe_ok {l : List (Option Blk)} {lim : Nat} (h : memLe l lim m = true) (hM : RM ρ S w0 σ m w) : RM ρ S w0 σ (memL l l.length lim) w := by
  unfold memLe at h
  simp only [Bool.and_eq_true] at h
  obtain ⟨⟨h1, h2⟩, h3⟩ := h
  have h1 := Nat.eq_of_beq_eq_true h1
  have h2 := Nat.eq_of_beq_eq_true h2
  have hσ : ∀ b y, b < m.next → σ[ren m.next [] b]? = some y → σ[b]? = some y := fun b y hb hy => by rwa [ren_id hb] at hy
  have get : ∀ n k, (memL l l.length lim).blks.get n = some k → n < m.next ∧ ∃ k', m.blks.get n = some k' ∧ bren (vren m.next m.next []) k k' = true := by
    intro n k hk
    have hk : (PT.ofO 14 l).get n = some k := hk
    have hn : n < m.next := by
      have := (List.getElem?_eq_some_iff.1 (PT.get_ofO _ _ _ _ hk)).1
      omega
    obtain ⟨k', e1, e2⟩ := brens_ok h3 n n k (by rw [idTs_get, if_pos hn, Nat.zero_add]) (by rw [Nat.zero_add]; exact hk)
    exact ⟨hn, k', e1, e2⟩
  refine ⟨hM.fr, by rw [hM.len]; exact h1.symm, ?_, ?_, ?_⟩
  · intro n k hk
    obtain ⟨_, k', e1, e2⟩ := get n k hk
    obtain ⟨b, c, hs, hh⟩ := hM.blk _ _ e1
    exact ⟨b, c, hs, (bren_ok hσ e2 hh).1⟩
  · intro n b c hl hs
    have hl : lim ≤ n := hl
    exact hM.own n b c (by omega) hs
  · intro i j k k2 hi hj hne hk hk2 hro x y hx hy
    obtain ⟨_, k', e1, e2⟩ := get i k hi
    obtain ⟨_, k2', e3, e4⟩ := get j k2 hj
    obtain ⟨b, c, hs, hh⟩ := hM.blk _ _ e1
    obtain ⟨b', c', hs', hh'⟩ := hM.blk _ _ e3
    obtain ⟨a1, a2⟩ := (bren_ok hσ e2 hh).2 hk
    obtain ⟨a3, a4⟩ := (bren_ok hσ e4 hh').2 hk2
    exact hM.inj i j k' k2' e1 e3 hne a1 a3 (by rw [a2, a4]; exact hro) x y hx hy
/-- what an entry says is so -/
def EntM (P : Program) (ng : Nat) (ρ : Nat → Int) (e : ME) : Prop := (∀ b t, (b, t) ∈ e.pc → b.val ρ = t) → ∀ (S : List Nat) (w0 : World) (σ : List (Nat × Nat)) (w : World) (xs : List Value) (R : Ending → World → Prop), Globs σ ng → RM ρ S w0 σ (memL e.l e.l.length e.lim) w → denL ρ σ e.args = some xs →
  e.t.all ρ (fun r => ∀ τ w', RM ρ S w0 (σ ++ τ) (memL r.2 r.2.length e.lim) w' → FinR ρ (σ ++ τ) R w' (.ret r.1)) → Calls P e.f xs.toArray w R
theorem entM_run (hm : P.follows .mixedOrders = true) (hH : HookOk P H ρ) (k : Nat) {pc : List (B × Bool)} {f : FuncId} {args : List V} {l l' : List (Option Blk)} {lim : Nat} {v : V} {g : G} (hg : (∀ b t, (b, t) ∈ pc → b.val ρ = t) → Gok ρ g) (hng : g.ng = ng) (h : runM P H k g f args l lim v l' = true) : EntM P ng ρ ⟨pc, f, args, l, lim, .ret (v, l')⟩ := by
  intro hpc S w0 σ w xs R hgl hM hxs hR
  unfold runM at h
  rw [forceN_eq] at h
  refine (all_okH hm hH k).1 _ f args _ xs S w0 σ w _ (hg hpc) (by rw [hng]; exact hgl) hM hxs (T.all_mono ?_ (T.all_of_allB h))
  rintro ⟨x, m⟩ hx τ w' hM'
  cases x with
  | pan u => cases hx
  | ret u =>
    simp only [resB, Bool.and_eq_true] at hx
    intro y hy
    have hσ : ∀ b z, b < m.next → (σ ++ τ)[ren m.next [] b]? = some z → (σ ++ τ)[b]? = some z := fun b z hb hz => by rwa [ren_id hb] at hz
    exact hR τ w' (memLe_ok hx.2 hM') y (vren_ok hσ v u y hx.1 hy)
/-- by a test -/
theorem entM_br {pc : List (B × Bool)} {f : FuncId} {args : List V} {l : List (Option Blk)} {lim : Nat} {x y : T (V × List (Option Blk))} (b : B) (h1 : EntM P ng ρ ⟨(b, true) :: pc, f, args, l, lim, x⟩) (h2 : EntM P ng ρ ⟨(b, false) :: pc, f, args, l, lim, y⟩) : EntM P ng ρ ⟨pc, f, args, l, lim, .br b x y⟩ := by
  intro hpc S w0 σ w xs R hgl hM hxs hR
  have more : ∀ t, b.val ρ = t → ∀ b' t', (b', t') ∈ (b, t) :: pc → b'.val ρ = t' := by
    intro t hb b' t' hm
    rcases List.mem_cons.1 hm with e | hm
    · cases e; exact hb
    · exact hpc b' t' hm
  cases hb : b.val ρ with
  | true => exact h1 (more true hb) S w0 σ w xs R hgl hM hxs (hR.1 hb)
  | false => exact h2 (more false hb) S w0 σ w xs R hgl hM hxs (hR.2 hb)
theorem treeM_all {lim : Nat} {K : Fin × Mem → Prop} : ∀ {t : T (V × List (Option Blk))}, (treeM lim t).all ρ K → t.all ρ (fun r => K (.ret r.1, memL r.2 r.2.length lim))
  | .ret (v, l'), h => by
    simp only [treeM, forceN_eq] at h
    exact h
  | .br b x y, h => ⟨fun hb => treeM_all (h.1 hb), fun hb => treeM_all (h.2 hb)⟩
  | .alt x y, h => ⟨treeM_all h.1, treeM_all h.2⟩
  | .bad, h => h
theorem pcOk_ok {g : G} (hg : Gok ρ g) : ∀ {l : List (B × Bool)}, pcOk g l = true → ∀ b t, (b, t) ∈ l → b.val ρ = t
  | [], _, b, t, hm => by cases hm
  | (b', t') :: l, h, b, t, hm => by
    simp only [pcOk, Bool.and_eq_true] at h
    rcases List.mem_cons.1 hm with e | hm
    · cases e
      have h1 := h.1
      split at h1
      · rename_i u hu
        rw [dec_ok hg _ _ hu]
        revert h1
        cases t' <;> cases u <;> intro h1 <;> first | rfl | cases h1
      · cases h1
    · exact pcOk_ok hg h.2 b t hm
theorem findM_ok {g : G} (hg : Gok ρ g) {f : FuncId} {args : List V} {t : T (Fin × Mem)} {xs : List Value} {R : Ending → World → Prop} (hgl : Globs σ ng) (hM : RM ρ S w0 σ m w) (hargs : denL ρ σ args = some xs)
    (hall : t.all ρ (fun r => ∀ τ w', RM ρ S w0 (σ ++ τ) r.2 w' → FinR ρ (σ ++ τ) R w' r.1)) : ∀ (ents : List ME), (∀ e ∈ ents, EntM P ng ρ e) → findM g f args m ents = some t → Calls P f xs.toArray w R
  | [], _, h => by cases h
  | e :: l, hok, h => by
    simp only [findM] at h
    split at h
    · rename_i hc
      cases h
      simp only [Bool.and_eq_true] at hc
      obtain ⟨⟨⟨h1, h2⟩, h3⟩, h4⟩ := hc
      have h1 := Nat.eq_of_beq_eq_true h1
      subst h1
      have hσ : ∀ b z, b < m.next → σ[ren m.next [] b]? = some z → σ[b]? = some z := fun b z hb hz => by rwa [ren_id hb] at hz
      exact hok e List.mem_cons_self (pcOk_ok hg h4) S w0 σ w xs R hgl (memLe_ok h3 hM) (vrens_ok hσ e.args args xs h2 hargs) (treeM_all hall)
    · exact findM_ok hg hgl hM hargs hall l (fun x hx => hok x (List.mem_cons_of_mem _ hx)) h
theorem hookM_ok {ents : List ME} (hok : ∀ e ∈ ents, EntM P ng ρ e) : HookOk P (hookM ng ents) ρ := by
  intro g f args m t xs S w0 σ w R h hg hgl hM ha hall
  unfold hookM at h
  split at h
  · rename_i hn
    have hn := Nat.eq_of_beq_eq_true hn
    rw [hn] at hgl
    exact findM_ok hg hgl hM ha hall ents hok h
  · cases h
theorem gok_more' {vs : List (Int × Int)} {pc pc' : List (B × Bool)} {n n' : Nat} (h : Gok ρ ⟨vs, pc', [], n'⟩) (hp : ∀ b t, (b, t) ∈ pc → b.val ρ = t) : Gok ρ ⟨vs, pc, [], n⟩ := ⟨h.vs, hp⟩
theorem noH_ok' : HookOk P noH ρ := by
  intro g f args m t xs S w0 σ w R h
  cases h
theorem holdsG_runX (hm : P.follows .mixedOrders = true) (H : Hook) (k ng : Nat) (gl : List (Nat × IntKind × List Int)) {f : FuncId} {l : List Sh} {pc : List (B × Bool)} (hH : ∀ ρ, Gok ρ ⟨shB l, pc, [], ng⟩ → HookOk P H ρ)
    (h : (xcallH P H k ⟨shB l, pc, [], ng⟩ f (shArgs l 0) (memG ng gl)).allB isTrue = true) : HoldsG P ng gl f l pc := by
  intro xs hx hpc w hW
  have hl : xs.length = (shKinds l).length := by have := inAll_len hx; simpa [shB] using this
  have hg : Gok (fun i => xs.getD i 0) ⟨shB l, pc, [], ng⟩ := ⟨(gok_of hx 0).vs, hpc⟩
  refine (all_okH hm (hH _ hg) k).1 _ f (shArgs l 0) (memG ng gl) (shVals l xs) [] w (sigG ng) w _ hg (fun i hi => ⟨0, sigG_get hi⟩) (RM.globs _ hW) (den_shs (sigG ng) l xs xs 0 hl (fun j _ => by rw [Nat.zero_add])) (T.all_mono ?_ (T.all_of_allB h))
  rintro ⟨e, m⟩ he τ w' hM
  cases e with
  | pan v => cases he
  | ret v =>
    cases v with
    | bool b =>
      cases b with
      | s b =>
        intro x hx
        cases (den_bool hx)
        simp only [isTrue] at he
        subst he
        exact ⟨rfl, hM.fr.below⟩
      | d b => cases he
    | _ => cases he
end
end Go.Proofs.YtnjenhdfeeonoaaGreatDoor.Sy
