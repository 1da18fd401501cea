/- The evaluator over memory known by name: calls of which it is known what they return. -/
import Derived.Test.YtkljleenmmeneaaGreatDoorTied
namespace Go.Proofs.YtkljleenmmeneaaGreatDoor.Sy
open Go.RowKit

mutual
theorem vbeq_eq : ∀ (a b : V), vbeq a b = true → a = b
  | .bool a, .bool b, h => by
    simp only [vbeq] at h
    rw [db_beq h]
  | .int j a, .int k b, h => by
    simp only [vbeq, Bool.and_eq_true] at h
    rw [kindNo_inj h.1, dn_beq h.2]
  | .str a, .str b, h => by
    simp only [vbeq, baEq_eq, decide_eq_true_eq] at h
    rw [h]
  | .nilp, .nilp, _ => rfl
  | .nils, .nils, _ => rfl
  | .nili, .nili, _ => rfl
  | .agg cs, .agg ds, h => by
    simp only [vbeq] at h
    rw [vbeqs_eq cs ds h]
  | .tup cs, .tup ds, h => by
    simp only [vbeq] at h
    rw [vbeqs_eq cs ds h]
  | .ptr _ _, b, h | .slice _ _ _ _, b, h | .sl _ _ _, b, h | .pel _ _ _ _ _, b, h | .nilm, b, h | .map _, b, h | .nilf, b, h | .func _ _ _, b, h | .iface _ _, b, h => by cases b <;> simp [vbeq] at h
  | .bool _, .int _ _, h | .bool _, .str _, h | .bool _, .nilp, h | .bool _, .ptr _ _, h | .bool _, .nils, h | .bool _, .slice _ _ _ _, h | .bool _, .sl _ _ _, h | .bool _, .pel _ _ _ _ _, h | .bool _, .nilm, h | .bool _, .map _, h | .bool _, .nilf, h | .bool _, .func _ _ _, h | .bool _, .nili, h | .bool _, .iface _ _, h | .bool _, .agg _, h | .bool _, .tup _, h => by simp [vbeq] at h
  | .int _ _, .bool _, h | .int _ _, .str _, h | .int _ _, .nilp, h | .int _ _, .ptr _ _, h | .int _ _, .nils, h | .int _ _, .slice _ _ _ _, h | .int _ _, .sl _ _ _, h | .int _ _, .pel _ _ _ _ _, h | .int _ _, .nilm, h | .int _ _, .map _, h | .int _ _, .nilf, h | .int _ _, .func _ _ _, h | .int _ _, .nili, h | .int _ _, .iface _ _, h | .int _ _, .agg _, h | .int _ _, .tup _, h => by simp [vbeq] at h
  | .str _, .bool _, h | .str _, .int _ _, h | .str _, .nilp, h | .str _, .ptr _ _, h | .str _, .nils, h | .str _, .slice _ _ _ _, h | .str _, .sl _ _ _, h | .str _, .pel _ _ _ _ _, h | .str _, .nilm, h | .str _, .map _, h | .str _, .nilf, h | .str _, .func _ _ _, h | .str _, .nili, h | .str _, .iface _ _, h | .str _, .agg _, h | .str _, .tup _, h => by simp [vbeq] at h
  | .nilp, .bool _, h | .nilp, .int _ _, h | .nilp, .str _, h | .nilp, .ptr _ _, h | .nilp, .nils, h | .nilp, .slice _ _ _ _, h | .nilp, .sl _ _ _, h | .nilp, .pel _ _ _ _ _, h | .nilp, .nilm, h | .nilp, .map _, h | .nilp, .nilf, h | .nilp, .func _ _ _, h | .nilp, .nili, h | .nilp, .iface _ _, h | .nilp, .agg _, h | .nilp, .tup _, h => by simp [vbeq] at h
  | .nils, .bool _, h | .nils, .int _ _, h | .nils, .str _, h | .nils, .ptr _ _, h | .nils, .nilp, h | .nils, .slice _ _ _ _, h | .nils, .sl _ _ _, h | .nils, .pel _ _ _ _ _, h | .nils, .nilm, h | .nils, .map _, h | .nils, .nilf, h | .nils, .func _ _ _, h | .nils, .nili, h | .nils, .iface _ _, h | .nils, .agg _, h | .nils, .tup _, h => by simp [vbeq] at h
  | .nili, .bool _, h | .nili, .int _ _, h | .nili, .str _, h | .nili, .ptr _ _, h | .nili, .nilp, h | .nili, .slice _ _ _ _, h | .nili, .sl _ _ _, h | .nili, .pel _ _ _ _ _, h | .nili, .nilm, h | .nili, .map _, h | .nili, .nilf, h | .nili, .func _ _ _, h | .nili, .nils, h | .nili, .iface _ _, h | .nili, .agg _, h | .nili, .tup _, h => by simp [vbeq] at h
  | .agg _, .bool _, h | .agg _, .int _ _, h | .agg _, .str _, h | .agg _, .ptr _ _, h | .agg _, .nilp, h | .agg _, .slice _ _ _ _, h | .agg _, .sl _ _ _, h | .agg _, .pel _ _ _ _ _, h | .agg _, .nilm, h | .agg _, .map _, h | .agg _, .nilf, h | .agg _, .func _ _ _, h | .agg _, .nils, h | .agg _, .iface _ _, h | .agg _, .nili, h | .agg _, .tup _, h => by simp [vbeq] at h
  | .tup _, .bool _, h | .tup _, .int _ _, h | .tup _, .str _, h | .tup _, .ptr _ _, h | .tup _, .nilp, h | .tup _, .slice _ _ _ _, h | .tup _, .sl _ _ _, h | .tup _, .pel _ _ _ _ _, h | .tup _, .nilm, h | .tup _, .map _, h | .tup _, .nilf, h | .tup _, .func _ _ _, h | .tup _, .nils, h | .tup _, .iface _ _, h | .tup _, .nili, h | .tup _, .agg _, h => by simp [vbeq] at h
theorem vbeqs_eq : ∀ (a b : List V), vbeqs a b = true → a = b
  | [], [], _ => rfl
  | x :: l, y :: k, h => by
    simp only [vbeqs, Bool.and_eq_true] at h
    rw [vbeq_eq x y h.1, vbeqs_eq l k h.2]
  | [], _ :: _, h | _ :: _, [], h => by simp [vbeqs] at h
end
mutual
/-- a value of numbers, bools and strings -/
def plainV : V → Bool
  | .bool _ => true
  | .int _ _ => true
  | .str _ => true
  | .nilp => true
  | .nils => true
  | .nili => true
  | .agg cs => plainVs cs
  | .tup cs => plainVs cs
  | _ => false
def plainVs : List V → Bool
  | [] => true
  | v :: l => plainV v && plainVs l
end
mutual
theorem plain_den (ρ : Nat → Int) : ∀ (v : V), plainV v = true → ∃ x, den ρ [] v = some x
  | .bool _, _ | .int _ _, _ | .str _, _ | .nilp, _ | .nils, _ | .nili, _ => by simp [den]
  | .agg cs, h => by
    simp only [plainV] at h
    obtain ⟨x, hx⟩ := plain_denL ρ cs h
    simp [den, hx]
  | .tup cs, h => by
    simp only [plainV] at h
    obtain ⟨x, hx⟩ := plain_denL ρ cs h
    simp [den, hx]
  | .ptr _ _, h | .slice _ _ _ _, h | .sl _ _ _, h | .pel _ _ _ _ _, h | .nilm, h | .map _, h | .nilf, h | .func _ _ _, h | .iface _ _, h => by simp [plainV] at h
theorem plain_denL (ρ : Nat → Int) : ∀ (l : List V), plainVs l = true → ∃ x, denL ρ [] l = some x
  | [], _ => ⟨[], denL_nil⟩
  | v :: l, h => by
    simp only [plainVs, Bool.and_eq_true] at h
    obtain ⟨x, hx⟩ := plain_den ρ v h.1
    obtain ⟨y, hy⟩ := plain_denL ρ l h.2
    exact ⟨x :: y, denL_cons hx hy⟩
end

section
variable {P : Program} {ρ : Nat → Int} {σ : List (Nat × Nat)} {S : List Nat} {w0 w w' : World} {m : Mem} {ng : Nat} {gl : List (Nat × IntKind × List Int)}
theorem RM.grow (hM : RM ρ S w0 σ m w) (h : Fr [] w w') : RM ρ S w0 σ m w' := by
  have hb : ∀ i, i < w.heap.size → w'.heap[i]? = w.heap[i]? := fun i hi => h.block i hi (by simp)
  exact ⟨⟨h.os.trans hM.fr.os, h.tape.trans hM.fr.tape, h.output.trans hM.fr.output, Nat.le_trans hM.fr.size h.size, fun k hk hs => (hb k (Nat.lt_of_lt_of_le hk hM.fr.size)).trans (hM.fr.block k hk hs)⟩, hM.len,
    fun n k hn => let ⟨b, c, hs, hh⟩ := hM.blk n k hn; ⟨b, c, hs, holds_at hh (fun hl => hb b (holds_lt hh hl))⟩, hM.own, hM.inj⟩
theorem lits_den {k : IntKind} : ∀ {vs : List V} {ns : List Int}, litsAre k vs ns = true → vs = ns.map fun n => .int k (.s n)
  | [], [], _ => rfl
  | v :: l, n :: r, h => by
    cases v <;> try (cases h; done)
    rename_i j a
    cases a <;> try (cases h; done)
    simp only [litsAre, Bool.and_eq_true] at h
    obtain ⟨⟨h1, h2⟩, h3⟩ := h
    rw [kindNo_inj h1, lits_den h3]
    rw [eqI_eq] at h2
    rw [of_decide_eq_true h2]
    rfl
  | [], _ :: _, h => by cases h
  | v :: _, [], h => by cases v <;> try (cases h; done)
                        rename_i j a; cases a <;> cases h
theorem globsB_ok (hM : RM ρ S w0 σ m w) (hgl : Globs σ ng) : ∀ {l : List (Nat × IntKind × List Int)}, globsB m ng l = true → GlobsAre w ng l
  | [], _ => fun x hx => by cases hx
  | y :: l, h => by
    simp only [globsB, Bool.and_eq_true] at h
    obtain ⟨⟨h1, h2⟩, h3⟩ := h
    have hlt : y.1 < ng := by simpa using h1
    intro x hx
    rcases List.mem_cons.1 hx with rfl | hx
    · refine ⟨hlt, ?_⟩
      split at h2
      · rename_i t n cs hb
        simp only [Bool.and_eq_true] at h2
        obtain ⟨h4, h5⟩ := h2
        have h4 := Nat.eq_of_beq_eq_true h4
        split at h5
        · rename_i vs hvs
          have hv := lits_den h5
          obtain ⟨b, c, hs, cur, t', hh, hok, hsz⟩ := hM.blk _ _ hb
          obtain ⟨c', hc'⟩ := hgl _ hlt
          rw [hc'] at hs; cases hs
          obtain ⟨hl, hget⟩ := PT.getN_get _ _ _ _ hvs
          refine ⟨t', ?_⟩
          rw [hh]
          congr 2
          apply Array.ext_getElem?
          intro i
          by_cases hi : i < n
          · obtain ⟨v, e1, e2⟩ := hget i hi
            rw [Nat.zero_add] at e1
            obtain ⟨z, e3, e4⟩ := hok.2 i v hi e1
            rw [hv, List.getElem?_map] at e2
            rw [e4]
            cases hn : x.2.2[i]? with
            | none => rw [hn] at e2; cases e2
            | some q =>
              rw [hn] at e2
              simp only [Option.map_some, Option.some.injEq] at e2
              subst e2
              simp only [den, DN.val, Option.some.injEq] at e3
              subst e3
              simp [hn]
          · rw [Array.getElem?_eq_none (by omega), Array.getElem?_eq_none (by simp; omega)]
        · cases h5
      · cases h2
    · exact globsB_ok hM hgl h3 x hx
/-- what an entry says is so -/
def EntryOk (P : Program) (ng : Nat) (gl : List (Nat × IntKind × List Int)) (ρ : Nat → Int) (h : HE) : Prop :=
  vbels 0 h.args = true ∧ ∃ x, den ρ [] h.v = some x ∧ ∀ xs, denL ρ [] h.args = some xs → ∀ w, (h.asks = true → GlobsAre w ng gl) → Calls P h.f xs.toArray w fun e w' => e = .returned x ∧ Fr [] w w'
theorem hookT_ok {g : G} {f : FuncId} {args : List V} {t : T (Fin × Mem)} {xs : List Value} {R : Ending → World → Prop} (hng : g.ng = ng) (hgl : Globs σ g.ng) (hM : RM ρ S w0 σ m w) (hargs : denL ρ σ args = some xs)
    (hall : t.all ρ (fun r => ∀ τ w', RM ρ S w0 (σ ++ τ) r.2 w' → FinR ρ (σ ++ τ) R w' r.1)) : ∀ (tab : List HE), (∀ h ∈ tab, EntryOk P ng gl ρ h) → hookT gl g f args m tab = some t → Calls P f xs.toArray w R
  | [], _, h => by cases h
  | e :: tab, hok, h => by
    simp only [hookT] at h
    have rest := fun (h : hookT gl g f args m tab = some t) => hookT_ok (t := t) hng hgl hM hargs hall tab (fun e he => hok e (List.mem_cons_of_mem _ he)) h
    split at h
    · exact rest h
    · rename_i hf
      have hf := Nat.eq_of_beq_eq_true hf
      split at h
      · exact rest h
      · rename_i ha
        have ha := vbeqs_eq _ _ ha
        obtain ⟨hv0, x, hx, hcall⟩ := hok e List.mem_cons_self
        have hd : denL ρ [] e.args = some xs := by
          have := denL_back ρ [] σ 0 rfl e.args xs hv0 (by rw [List.nil_append, ha]; exact hargs)
          exact this
        have fin : (e.asks = true → GlobsAre w ng gl) → t = .ret (.ret e.v, m) → Calls P f xs.toArray w R := by
          intro hg ht
          subst ht
          subst hf
          refine (hcall xs hd w hg).mono ?_
          rintro e' w' ⟨rfl, hfr⟩
          have h2 := hall [] w' (by rw [List.append_nil]; exact hM.grow hfr)
          rw [List.append_nil] at h2
          exact h2 x (by have := den_pre ρ [] σ _ _ hx; simpa using this)
        split at h
        · rename_i hask
          cases h
          exact fin (fun hh => by rw [hask] at hh; cases hh) rfl
        · split at h
          · rename_i hb
            cases h
            exact fin (fun _ => by rw [hng] at hb hgl; exact globsB_ok hM hgl hb) rfl
          · cases h
theorem hookL_ok {tab : List HE} (hok : ∀ h ∈ tab, EntryOk P ng gl ρ h) : ∀ (g : G) (f : FuncId) (args : List V) (m : Mem) (t : T (Fin × Mem)) (xs : List Value) (S : List Nat) (w0 : World) (σ : List (Nat × Nat)) (w : World) (R : Ending → World → Prop),
    g.ng = ng → hookL gl tab g f args m = some t → Gok ρ g → Globs σ g.ng → RM ρ S w0 σ m w → denL ρ σ args = some xs → t.all ρ (fun r => ∀ τ w', RM ρ S w0 (σ ++ τ) r.2 w' → FinR ρ (σ ++ τ) R w' r.1) → Calls P f xs.toArray w R :=
  fun _ _ _ _ _ _ _ _ _ _ _ hng h _ hgl hM ha hall => hookT_ok hng hgl hM ha hall tab hok h
/-- .. asked of so many variables alone -/
noncomputable def hookN (ng : Nat) (gl : List (Nat × IntKind × List Int)) (tab : List HE) : Hook := fun g f args m => match Nat.beq g.ng ng with
  | true => hookL gl tab g f args m
  | false => none
theorem hookN_ok {tab : List HE} (hok : ∀ h ∈ tab, EntryOk P ng gl ρ h) : HookOk P (hookN ng gl tab) ρ := by
  intro g f args m t xs S w0 σ w R h hg hgl hM ha hall
  unfold hookN at h
  split at h
  · rename_i hn
    exact hookL_ok hok g f args m t xs S w0 σ w R (Nat.eq_of_beq_eq_true hn) h hg hgl hM ha hall
  · cases h

/-- an entry that a run shows -/
theorem he_run (hm : P.follows .mixedOrders = true) (k : Nat) {tab : List HE} {f : FuncId} {args : List V} {v : V} {vs : List (Int × Int)} {pc : List (B × Bool)} (ht : ∀ h ∈ tab, EntryOk P ng gl ρ h) (hg : Gok ρ ⟨vs, pc, [], ng⟩) (hv0 : vbels 0 args = true) (hpl : plainV v = true) (asks : Bool)
    (h : (xcallH P (hookN ng gl tab) k ⟨vs, pc, [], ng⟩ f args (memG ng gl)).allB (isRet v) = true) (ha : asks = true) : EntryOk P ng gl ρ ⟨f, asks, args, v⟩ := by
  obtain ⟨x, hx⟩ := plain_den ρ v hpl
  refine ⟨hv0, x, hx, fun xs hxs w hW => ?_⟩
  have hW := hW ha
  have hxs' : denL ρ (sigG ng) args = some xs := by have := denL_pre ρ [] (sigG ng) _ _ hxs; simpa using this
  refine (all_okH hm (hookN_ok ht) k).1 _ f args (memG ng gl) xs [] w (sigG ng) w _ hg (fun i hi => ⟨0, sigG_get hi⟩) (RM.globs _ hW) hxs' (T.all_mono ?_ (T.all_of_allB h))
  rintro ⟨e, m⟩ he τ w' hM
  cases e with
  | pan u => cases he
  | ret u =>
    intro y hy
    have hu := vbeq_eq _ _ he
    subst hu
    have := den_pre ρ [] (sigG ng ++ τ) _ _ hx
    rw [List.nil_append] at this
    rw [this] at hy
    cases hy
    exact ⟨rfl, hM.fr⟩
theorem he_run0 (hm : P.follows .mixedOrders = true) (k : Nat) {f : FuncId} {args : List V} {v : V} {vs : List (Int × Int)} {pc : List (B × Bool)} (hg : Gok ρ ⟨vs, pc, [], 0⟩) (hv0 : vbels 0 args = true) (hpl : plainV v = true)
    (h : (xcall P k ⟨vs, pc, [], 0⟩ f args mem0).allB (isRet v) = true) : EntryOk P ng gl ρ ⟨f, false, args, v⟩ := by
  obtain ⟨x, hx⟩ := plain_den ρ v hpl
  refine ⟨hv0, x, hx, fun xs hxs w _ => ?_⟩
  refine (all_ok hm k).1 _ f args mem0 xs [] w [] w _ hg (globs0 _) (RM.none ρ w) hxs (T.all_mono ?_ (T.all_of_allB h))
  rintro ⟨e, m⟩ he τ w' hM
  cases e with
  | pan u => cases he
  | ret u =>
    intro y hy
    have hu := vbeq_eq _ _ he
    subst hu
    have := den_pre ρ [] ([] ++ τ) _ _ hx
    rw [List.nil_append] at this
    rw [this] at hy
    cases hy
    exact ⟨rfl, hM.fr⟩
theorem holdsG_runH (hm : P.follows .mixedOrders = true) (k ng : Nat) (gl : List (Nat × IntKind × List Int)) {tab : List HE} {f : FuncId} {l : List Sh} {pc : List (B × Bool)} (ht : ∀ ρ, Gok ρ ⟨shB l, pc, [], ng⟩ → ∀ h ∈ tab, EntryOk P ng gl ρ h)
    (h : (xcallH P (hookN ng gl tab) k ⟨shB l, pc, [], ng⟩ f (shArgs l 0) (memG ng gl)).allB isTrue = true) : HoldsG P ng gl f l pc := by
  intro xs hx hpc w hW
  have hl : xs.length = (shKinds l).length := by have := inAll_len hx; simpa [shB] using this
  have hg : Gok (fun i => xs.getD i 0) ⟨shB l, pc, [], ng⟩ := ⟨(gok_of hx 0).vs, hpc⟩
  refine (all_okH hm (hookN_ok (ht _ hg)) k).1 _ f (shArgs l 0) (memG ng gl) (shVals l xs) [] w (sigG ng) w _ hg (fun i hi => ⟨0, sigG_get hi⟩) (RM.globs _ hW) (den_shs (sigG ng) l xs xs 0 hl (fun j _ => by rw [Nat.zero_add])) (T.all_mono ?_ (T.all_of_allB h))
  rintro ⟨e, m⟩ he τ w' hM
  cases e with
  | pan v => cases he
  | ret v =>
    cases v with
    | bool b =>
      cases b with
      | s b =>
        intro x hx
        cases (den_bool hx)
        simp only [isTrue] at he
        subst he
        exact ⟨rfl, hM.fr.below⟩
      | d b => cases he
    | _ => cases he
end
end Go.Proofs.YtkljleenmmeneaaGreatDoor.Sy
