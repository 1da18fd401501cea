/- '==' between two values of any flat type: structs and arrays of integers and bools, to whatever depth. -/
import Derived.Test.YtihlbfbplmehiaaLift
namespace Go.Proofs.Ytihlbfbplmehiaa
open Go.RowKit

theorem keyLits_array {P : Program} {d : Nat} {t : TypeId} {n : Nat} {e : TypeId} {cs : List Value} (hu : P.underlying t = some (.array n e)) (hl : cs.length = P.cellsOf t) :
    P.keyLits (d + 1) t cs = ((List.range n).mapM fun i => P.keyLits d e ((cs.drop (i * P.cellsOf e)).take (P.cellsOf e))).map List.flatten := by
  rw [Program.keyLits.eq_def]
  simp only [hu, hl, if_true]
theorem keyLits_struct {P : Program} {d : Nat} {t : TypeId} {fs : Array Field} {cs : List Value} (hu : P.underlying t = some (.struct fs)) (hl : cs.length = P.cellsOf t) (hb : fs.all (·.name != "_") = true) :
    P.keyLits (d + 1) t cs = (fs.toList.mapM fun f => P.keyLits d f.type ((cs.drop f.offset).take (P.cellsOf f.type))).map List.flatten := by
  rw [Program.keyLits.eq_def]
  simp only [hu, hl, hb, if_true, and_self]

def litOf : Value → Lit
  | .int k n => .int k n
  | .bool b => .bool b
  | _ => .bool false

theorem fitC_lit {k : Option IntKind} {c c' : Value} (h : FitC k c) (h' : FitC k c') (e : litOf c = litOf c') : c = c' := by
  cases k <;> cases c <;> cases c' <;> simp_all [FitC, litOf]
theorem fit_length : ∀ {ks : List (Option IntKind)} {cs : List Value}, Fit ks cs → cs.length = ks.length
  | [], [], _ => rfl
  | _ :: _, _ :: _, h => by rw [List.length_cons, List.length_cons, fit_length h.2]
  | [], _ :: _, h => h.elim
  | _ :: _, [], h => h.elim
theorem fit_lits : ∀ {ks : List (Option IntKind)} {cs cs' : List Value}, Fit ks cs → Fit ks cs' → cs.map litOf = cs'.map litOf → cs = cs'
  | [], [], [], _, _, _ => rfl
  | _ :: _, _ :: _, _ :: _, h, h', e => by
    simp only [List.map_cons, List.cons.injEq] at e
    rw [fitC_lit h.1 h'.1 e.1, fit_lits h.2 h'.2 e.2]
  | [], _ :: _, _, h, _, _ => h.elim
  | _ :: _, [], _, h, _, _ => h.elim
  | [], [], _ :: _, _, h, _ => h.elim
  | _ :: _, _ :: _, [], _, h, _ => h.elim
theorem fit_append : ∀ {a b : List (Option IntKind)} {cs : List Value}, Fit (a ++ b) cs → Fit a (cs.take a.length) ∧ Fit b (cs.drop a.length)
  | [], _, _, h => ⟨by simp [Fit], by simpa using h⟩
  | k :: a, b, c :: cs, h => by
    obtain ⟨h1, h2⟩ := fit_append (a := a) (b := b) (cs := cs) h.2
    exact ⟨⟨h.1, h1⟩, h2⟩
  | _ :: _, _, [], h => h.elim
theorem fit_join : ∀ {a b : List (Option IntKind)} {cs ds : List Value}, Fit a cs → Fit b ds → Fit (a ++ b) (cs ++ ds)
  | [], _, [], _, _, h => h
  | _ :: _, _, _ :: _, _, h, k => ⟨h.1, fit_join h.2 k⟩
  | [], _, _ :: _, _, h, _ => h.elim
  | _ :: _, _, [], _, h, _ => h.elim

/-- the kinds of a flat type's cells -/
def flatFs (g : TypeId → Option (List (Option IntKind))) (c : TypeId → Nat) : Nat → List Field → Option (List (Option IntKind))
  | _, [] => some []
  | off, f :: fs => match g f.type with
    | some ks => if f.offset = off ∧ ks.length = c f.type ∧ (f.name != "_") = true then (flatFs g c (off + c f.type) fs).map (ks ++ ·) else none
    | none => none
def flatAt (P : Program) : Nat → TypeId → Option (List (Option IntKind))
  | 0, _ => none
  | d + 1, t => match P.underlying t with
    | some .bool => some [none]
    | some (.int q) => some [some q]
    | some (.array n e) => match flatAt P d e with
      | some ks => if ks.length = P.cellsOf e ∧ n * P.cellsOf e = P.cellsOf t then some (List.replicate n ks).flatten else none
      | none => none
    | some (.struct fs) => match flatFs (flatAt P d) P.cellsOf 0 fs.toList with
      | some ks => if ks.length = P.cellsOf t then some ks else none
      | none => none
    | _ => none

theorem mapM_some {α β : Type} {f : α → Option β} {g : α → β} : ∀ {l : List α}, (∀ x ∈ l, f x = some (g x)) → l.mapM f = some (l.map g)
  | [], _ => rfl
  | x :: l, h => by rw [List.mapM_cons, h x List.mem_cons_self, mapM_some fun y hy => h y (List.mem_cons_of_mem _ hy)]; rfl

theorem fit_rep {ks : List (Option IntKind)} {m : Nat} (hm : ks.length = m) : ∀ {n : Nat} {cs : List Value}, Fit (List.replicate n ks).flatten cs → ∀ i < n, Fit ks ((cs.drop (i * m)).take m)
  | 0, _, _, i, h => by omega
  | n + 1, cs, h, i, hi => by
    rw [List.replicate_succ, List.flatten_cons] at h
    obtain ⟨h1, h2⟩ := fit_append h
    cases i with
    | zero => rw [Nat.zero_mul, List.drop_zero, ← hm]; exact h1
    | succ i =>
      have := fit_rep hm h2 i (by omega)
      rwa [hm, List.drop_drop, show m + i * m = (i + 1) * m by rw [Nat.succ_mul, Nat.add_comm]] at this
theorem sum_rep (n m : Nat) : (List.replicate n m).sum = n * m := by
  induction n with
  | zero => simp
  | succ n ih => rw [List.replicate_succ, List.sum_cons, Nat.succ_mul, ih, Nat.add_comm]
theorem chunks_flat {m : Nat} : ∀ (n : Nat) (cs : List Value), cs.length = n * m → ((List.range n).map fun i => (((cs.drop (i * m)).take m).map litOf)).flatten = cs.map litOf
  | 0, cs, h => by
    have : cs = [] := List.length_eq_zero_iff.1 (by simpa using h)
    subst this; rfl
  | n + 1, cs, h => by
    rw [List.range_succ_eq_map, List.map_cons, List.flatten_cons, List.map_map]
    have e := chunks_flat (m := m) n (cs.drop m) (by rw [List.length_drop, h, Nat.succ_mul]; omega)
    have : ((List.range n).map ((fun i => (((cs.drop (i * m)).take m).map litOf)) ∘ Nat.succ)) = ((List.range n).map fun i => ((((cs.drop m).drop (i * m)).take m).map litOf)) := by
      apply List.map_congr_left
      intro i _
      show ((cs.drop ((i + 1) * m)).take m).map litOf = _
      rw [List.drop_drop, show m + i * m = (i + 1) * m by rw [Nat.succ_mul, Nat.add_comm]]
    rw [this, e, Nat.zero_mul, List.drop_zero, ← List.map_append, List.take_append_drop]

theorem flat_fs {P : Program} {d : Nat} (ih : ∀ t ks cs, flatAt P d t = some ks → Fit ks cs → P.keyLits d t cs = some (cs.map litOf)) :
    ∀ (fs : List Field) (off : Nat) (ks : List (Option IntKind)) (cs rest : List Value), flatFs (flatAt P d) P.cellsOf off fs = some ks → cs.drop off = rest → Fit ks rest →
      ∃ lss, (fs.mapM fun f => P.keyLits d f.type ((cs.drop f.offset).take (P.cellsOf f.type))) = some lss ∧ lss.flatten = rest.map litOf ∧ fs.all (·.name != "_") = true
  | [], off, ks, cs, rest, h, _, hf => by
    simp only [flatFs, Option.some.injEq] at h
    subst h
    cases rest with
    | nil => exact ⟨[], rfl, rfl, rfl⟩
    | cons => exact hf.elim
  | f :: fs, off, ks, cs, rest, h, hr, hf => by
    unfold flatFs at h
    split at h
    · rename_i k1 hk1
      split at h
      · rename_i hc
        obtain ⟨h1, h2, h3⟩ := hc
        simp only [Option.map_eq_some_iff] at h
        obtain ⟨k2, hk2, rfl⟩ := h
        obtain ⟨f1, f2⟩ := fit_append hf
        obtain ⟨lss, e1, e2, e3⟩ := flat_fs ih fs (off + P.cellsOf f.type) k2 cs (rest.drop k1.length) hk2 (by rw [← hr, List.drop_drop, h2]) f2
        refine ⟨(rest.take k1.length).map litOf :: lss, ?_, ?_, ?_⟩
        · have e0 : P.keyLits d f.type ((cs.drop f.offset).take (P.cellsOf f.type)) = some ((rest.take k1.length).map litOf) := by
            rw [h1, hr, ← h2]
            exact ih _ _ _ hk1 f1
          rw [List.mapM_cons, e0, e1]; rfl
        · rw [List.flatten_cons, e2, ← List.map_append, List.take_append_drop]
        · rw [List.all_cons, e3, Bool.and_true]; exact h3
      · cases h
    · cases h

theorem flat_keyLits {P : Program} : ∀ (d : Nat) (t : TypeId) (ks : List (Option IntKind)) (cs : List Value), flatAt P d t = some ks → Fit ks cs → P.keyLits d t cs = some (cs.map litOf)
  | 0, _, _, _, h, _ => by cases h
  | d + 1, t, ks, cs, h, hf => by
    unfold flatAt at h
    split at h
    · rename_i hu
      cases h
      match cs, hf with
      | [.bool b], _ => rw [Program.keyLits.eq_def]; simp [hu, litOf]
    · rename_i q hu
      cases h
      match cs, hf with
      | [.int q' n], ⟨h1, _⟩ =>
        obtain ⟨rfl, h1, h2⟩ := h1
        rw [Program.keyLits.eq_def]
        simp only [hu]
        simp [Lit.wf, h1, h2, litOf]
    · rename_i n e hu
      split at h
      · rename_i ks' hk
        split at h
        · rename_i hc
          cases h
          have hl := fit_length hf
          have hlen : cs.length = n * P.cellsOf e := by
            rw [hl]
            rw [List.length_flatten, List.map_replicate, hc.1]
            exact sum_rep n _
          rw [keyLits_array hu (by rw [hlen, hc.2])]
          rw [mapM_some (g := fun i => (((cs.drop (i * P.cellsOf e)).take (P.cellsOf e)).map litOf))]
          · rw [Option.map_some, chunks_flat n cs hlen]
          · intro i hi
            exact flat_keyLits d e ks' _ hk (fit_rep hc.1 hf i (List.mem_range.1 hi))
        · cases h
      · cases h
    · rename_i fs hu
      split at h
      · rename_i ks' hk
        split at h
        · rename_i hc
          cases h
          obtain ⟨lss, e1, e2, e3⟩ := flat_fs (fun t ks cs => flat_keyLits d t ks cs) fs.toList 0 _ cs cs hk (by simp) hf
          rw [keyLits_struct hu (by rw [fit_length hf, hc]) (by rw [← Array.all_toList]; exact e3), e1, Option.map_some, e2]
        · cases h
      · cases h
    · cases h

/-- '==' and '!=' of flat values -/
theorem flat_eql {P : Program} {m D : Nat} {t : TypeId} {cs cs' : List Value} {ks : List (Option IntKind)} (hm : m ≤ 10000) (hk : P.keyTypeAt m t = true) (hks : flatAt P D t = some ks)
    (hu : (match P.underlying t with | some (.struct _) | some (.array _ _) => ks.length == P.cellsOf t | _ => false) = true) (h : Fit ks cs) (h' : Fit ks cs') (q : Bool) (hq : q = true ↔ cs = cs') (w : World) : (Op.equalIn 10000 t (.agg cs.toArray) (.agg cs'.toArray)).run P w = .ok q w := by
  have fm : ∀ {c : List Value}, Fit ks c → (Value.agg c.toArray).formed P t = true := by
    intro c hc
    unfold Value.formed
    have hl := fit_length hc
    split at hu <;> simp_all
  refine eq_flat (lx := cs.map litOf) (ly := cs'.map litOf) hm hk (fm h) (fm h') (flat_keyLits D t ks cs hks h) (flat_keyLits D t ks cs' hks h') q ?_ w
  rw [hq]
  exact ⟨fun e => by rw [e], fit_lits h h'⟩
theorem flat_binop_eql {P : Program} {m D : Nat} {t : TypeId} {cs cs' : List Value} {ks : List (Option IntKind)} (hm : m ≤ 10000) (hk : P.keyTypeAt m t = true) (hks : flatAt P D t = some ks)
    (hu : (match P.underlying t with | some (.struct _) | some (.array _ _) => ks.length == P.cellsOf t | _ => false) = true) (h : Fit ks cs) (h' : Fit ks cs') (q : Bool) (hq : q = true ↔ cs = cs') (w : World) : (binOp .eql t (.agg cs.toArray) (.agg cs'.toArray)).run P w = .ok (.bool q) w := by
  rw [run_eql_struct, flat_eql hm hk hks hu h h' q hq w]; rfl
theorem flat_binop_neq {P : Program} {m D : Nat} {t : TypeId} {cs cs' : List Value} {ks : List (Option IntKind)} (hm : m ≤ 10000) (hk : P.keyTypeAt m t = true) (hks : flatAt P D t = some ks)
    (hu : (match P.underlying t with | some (.struct _) | some (.array _ _) => ks.length == P.cellsOf t | _ => false) = true) (h : Fit ks cs) (h' : Fit ks cs') (q : Bool) (hq : q = true ↔ cs = cs') (w : World) : (binOp .neq t (.agg cs.toArray) (.agg cs'.toArray)).run P w = .ok (.bool (!q)) w := by
  rw [run_neq_struct, flat_eql hm hk hks hu h h' q hq w]; rfl
end Go.Proofs.Ytihlbfbplmehiaa
