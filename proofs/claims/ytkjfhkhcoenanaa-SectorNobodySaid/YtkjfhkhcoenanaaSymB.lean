/- The evaluator over memory known by name: what its words mean. -/
import Derived.Test.YtkjfhkhcoenanaaSymA
namespace Go.Proofs.Ytkjfhkhcoenanaa.Sy
open Go.RowKit

def Cp.den (c : Nat) : Cp → Nat
  | .s n => n
  | .row k => c - k
mutual
/-- the value that is meant, where the i-th name is that block (and that capacity) -/
def den (σ : List (Nat × Nat)) : V → Option Value
  | .bool b => some (.bool b.val)
  | .int k n => some (.int k n.val)
  | .str s => some (.string s)
  | .nilp => some (.pointer none)
  | .ptr b o => match σ[b]? with
    | some x => some (.pointer (some ⟨x.1, o, none⟩))
    | none => none
  | .nils => some (.slice none 0 0)
  | .slice b o l c => match σ[b]? with
    | some x => some (.slice (some ⟨x.1, o, none⟩) l (c.den x.2))
    | none => none
  | .nilm => some (.map none)
  | .map b => match σ[b]? with
    | some x => some (.map (some x.1))
    | none => none
  | .nilf => some .nilFunc
  | .func f a c => match denL σ a with
    | some x => match denL σ c with
      | some y => some (.func f x.toArray y.toArray)
      | none => none
    | none => none
  | .nili => some .nilIface
  | .iface t v => match den σ v with
    | some x => some (.iface t x)
    | none => none
  | .agg cs => match denL σ cs with
    | some x => some (.agg x.toArray)
    | none => none
  | .tup cs => match denL σ cs with
    | some x => some (.tuple x.toArray)
    | none => none
def denL (σ : List (Nat × Nat)) : List V → Option (List Value)
  | [] => some []
  | v :: l => match den σ v with
    | some x => match denL σ l with
      | some y => some (x :: y)
      | none => none
    | none => none
end

theorem get_pre {α : Type} {σ τ : List α} {i : Nat} {x : α} (h : σ[i]? = some x) : (σ ++ τ)[i]? = some x := by
  have hi : i < σ.length := by
    rcases Nat.lt_or_ge i σ.length with h1 | h1
    · exact h1
    · rw [List.getElem?_eq_none h1] at h; cases h
  rw [List.getElem?_append_left hi]; exact h

mutual
theorem den_pre (σ τ : List (Nat × Nat)) : ∀ (v : V) (x : Value), den σ v = some x → den (σ ++ τ) v = some x
  | .bool _, _, h | .int _ _, _, h | .str _, _, h | .nilp, _, h | .nils, _, h | .nilm, _, h | .nilf, _, h | .nili, _, h => by simpa only [den] using h
  | .ptr b _, _, h | .slice b _ _ _, _, h | .map b, _, h => by
    simp only [den] at h ⊢
    cases hb : σ[b]? with
    | none => rw [hb] at h; cases h
    | some y => rw [hb] at h; rw [get_pre hb]; exact h
  | .func f a c, _, h => by
    simp only [den] at h ⊢
    cases ha : denL σ a with
    | none => rw [ha] at h; cases h
    | some y =>
      rw [ha] at h; rw [denL_pre σ τ a y ha]
      simp only at h ⊢
      cases hc : denL σ c with
      | none => rw [hc] at h; cases h
      | some z => rw [hc] at h; rw [denL_pre σ τ c z hc]; exact h
  | .iface t v, _, h => by
    simp only [den] at h ⊢
    cases ha : den σ v with
    | none => rw [ha] at h; cases h
    | some y => rw [ha] at h; rw [den_pre σ τ v y ha]; exact h
  | .agg cs, _, h | .tup cs, _, h => by
    simp only [den] at h ⊢
    cases ha : denL σ cs with
    | none => rw [ha] at h; cases h
    | some y => rw [ha] at h; rw [denL_pre σ τ cs y ha]; exact h
theorem denL_pre (σ τ : List (Nat × Nat)) : ∀ (l : List V) (x : List Value), denL σ l = some x → denL (σ ++ τ) l = some x
  | [], _, h => by simpa only [denL] using h
  | v :: l, _, h => by
    simp only [denL] at h ⊢
    cases ha : den σ v with
    | none => rw [ha] at h; cases h
    | some y =>
      rw [ha] at h; rw [den_pre σ τ v y ha]
      simp only at h ⊢
      cases hc : denL σ l with
      | none => rw [hc] at h; cases h
      | some z => rw [hc] at h; rw [denL_pre σ τ l z hc]; exact h
end

theorem get_back {α : Type} {σ τ : List α} {i n : Nat} {x : α} (hn : σ.length = n) (hi : Nat.blt i n = true) (h : (σ ++ τ)[i]? = some x) : σ[i]? = some x := by
  have : i < σ.length := by rw [hn]; simpa using hi
  rw [List.getElem?_append_left this] at h; exact h
mutual
theorem den_back (σ τ : List (Nat × Nat)) (n : Nat) (hn : σ.length = n) : ∀ (v : V) (x : Value), vbel n v = true → den (σ ++ τ) v = some x → den σ v = some x
  | .bool _, _, _, h | .int _ _, _, _, h | .str _, _, _, h | .nilp, _, _, h | .nils, _, _, h | .nilm, _, _, h | .nilf, _, _, h | .nili, _, _, h => by simpa only [den] using h
  | .ptr b _, _, hb, h | .slice b _ _ _, _, hb, h | .map b, _, hb, h => by
    simp only [den, vbel] at h hb ⊢
    cases hx : (σ ++ τ)[b]? with
    | none => rw [hx] at h; cases h
    | some y => rw [hx] at h; rw [get_back hn hb hx]; exact h
  | .func f a c, _, hb, h => by
    simp only [den, vbel, Bool.and_eq_true] at h hb ⊢
    cases ha : denL (σ ++ τ) a with
    | none => rw [ha] at h; cases h
    | some y =>
      rw [ha] at h; rw [denL_back σ τ n hn a y hb.1 ha]
      simp only at h ⊢
      cases hc : denL (σ ++ τ) c with
      | none => rw [hc] at h; cases h
      | some z => rw [hc] at h; rw [denL_back σ τ n hn c z hb.2 hc]; exact h
  | .iface t v, _, hb, h => by
    simp only [den, vbel] at h hb ⊢
    cases ha : den (σ ++ τ) v with
    | none => rw [ha] at h; cases h
    | some y => rw [ha] at h; rw [den_back σ τ n hn v y hb ha]; exact h
  | .agg cs, _, hb, h | .tup cs, _, hb, h => by
    simp only [den, vbel] at h hb ⊢
    cases ha : denL (σ ++ τ) cs with
    | none => rw [ha] at h; cases h
    | some y => rw [ha] at h; rw [denL_back σ τ n hn cs y hb ha]; exact h
theorem denL_back (σ τ : List (Nat × Nat)) (n : Nat) (hn : σ.length = n) : ∀ (l : List V) (x : List Value), vbels n l = true → denL (σ ++ τ) l = some x → denL σ l = some x
  | [], _, _, h => by simpa only [denL] using h
  | v :: l, _, hb, h => by
    simp only [denL, vbels, Bool.and_eq_true] at h hb ⊢
    cases ha : den (σ ++ τ) v with
    | none => rw [ha] at h; cases h
    | some y =>
      rw [ha] at h; rw [den_back σ τ n hn v y hb.1 ha]
      simp only at h ⊢
      cases hc : denL (σ ++ τ) l with
      | none => rw [hc] at h; cases h
      | some z => rw [hc] at h; rw [denL_back σ τ n hn l z hb.2 hc]; exact h
end

section lists
variable {σ : List (Nat × Nat)}
theorem denL_nil : denL σ [] = some [] := by simp only [denL]
theorem denL_cons_eq {v : V} {l : List V} {y : List Value} (h : denL σ (v :: l) = some y) : ∃ x z, den σ v = some x ∧ denL σ l = some z ∧ y = x :: z := by
  simp only [denL] at h
  cases ha : den σ v with
  | none => rw [ha] at h; cases h
  | some x =>
    rw [ha] at h
    simp only at h
    cases hb : denL σ l with
    | none => rw [hb] at h; cases h
    | some z => rw [hb] at h; exact ⟨x, z, rfl, rfl, (Option.some.inj h).symm⟩
theorem denL_cons {v : V} {l : List V} {x : Value} {z : List Value} (h1 : den σ v = some x) (h2 : denL σ l = some z) : denL σ (v :: l) = some (x :: z) := by
  simp only [denL, h1, h2]
theorem denL_length : ∀ {l : List V} {y : List Value}, denL σ l = some y → y.length = l.length
  | [], y, h => by rw [denL_nil] at h; cases h; rfl
  | v :: l, y, h => by
    obtain ⟨x, z, _, h2, rfl⟩ := denL_cons_eq h
    simp [denL_length h2]
theorem denL_append : ∀ {l k : List V} {y z : List Value}, denL σ l = some y → denL σ k = some z → denL σ (l ++ k) = some (y ++ z)
  | [], k, y, z, h, h2 => by rw [denL_nil] at h; cases h; simpa using h2
  | v :: l, k, y, z, h, h2 => by
    obtain ⟨x, z', h1, h3, rfl⟩ := denL_cons_eq h
    exact denL_cons h1 (denL_append h3 h2)
theorem denL_take : ∀ {l : List V} {y : List Value} (n : Nat), denL σ l = some y → denL σ (l.take n) = some (y.take n)
  | l, y, 0, h => by simp [denL_nil]
  | [], y, n + 1, h => by rw [denL_nil] at h; cases h; simp [denL_nil]
  | v :: l, y, n + 1, h => by
    obtain ⟨x, z', h1, h3, rfl⟩ := denL_cons_eq h
    exact denL_cons h1 (denL_take n h3)
theorem denL_drop : ∀ {l : List V} {y : List Value} (n : Nat), denL σ l = some y → denL σ (l.drop n) = some (y.drop n)
  | l, y, 0, h => by simpa using h
  | [], y, n + 1, h => by rw [denL_nil] at h; cases h; simp [denL_nil]
  | v :: l, y, n + 1, h => by
    obtain ⟨x, z', h1, h3, rfl⟩ := denL_cons_eq h
    exact denL_drop n h3
theorem nth_eq {α : Type} : ∀ (l : List α) (n : Nat), nth l n = l[n]?
  | [], n => by simp [nth]
  | a :: l, n => by
    unfold nth
    cases hn : Nat.beq n 0 with
    | true => have : n = 0 := Nat.eq_of_beq_eq_true hn; subst this; rfl
    | false =>
      have : n ≠ 0 := fun e => by subst e; cases hn
      obtain ⟨m, rfl⟩ : ∃ m, n = m + 1 := ⟨n - 1, by omega⟩
      simp [nth_eq l m]
theorem denL_nth : ∀ {l : List V} {y : List Value} {n : Nat} {v : V}, denL σ l = some y → l[n]? = some v → ∃ x, y[n]? = some x ∧ den σ v = some x
  | [], y, n, v, h, h2 => by simp at h2
  | v :: l, y, 0, u, h, h2 => by
    obtain ⟨x, z', h1, h3, rfl⟩ := denL_cons_eq h
    simp at h2; subst h2
    exact ⟨x, rfl, h1⟩
  | v :: l, y, n + 1, u, h, h2 => by
    obtain ⟨x, z', h1, h3, rfl⟩ := denL_cons_eq h
    simp at h2
    obtain ⟨x', e1, e2⟩ := denL_nth h3 h2
    exact ⟨x', by simpa using e1, e2⟩
end lists

/-- what an op of one cell is -/
theorem oneCell_den {σ : List (Nat × Nat)} {v : V} {x : Value} (h : den σ v = some x) (h1 : oneCell v = true) : x.oneCell' = true := by
  cases v <;> simp only [oneCell, Bool.false_eq_true] at h1 <;> simp only [den] at h
  all_goals first
    | (cases h; rfl)
    | (split at h <;> first | (cases h; rfl) | (split at h <;> first | (cases h; rfl) | cases h) | cases h)
theorem allOne_den {σ : List (Nat × Nat)} : ∀ {l : List V} {y : List Value}, denL σ l = some y → allOne l = true → ∀ x ∈ y, x.oneCell' = true
  | [], y, h, _ => by rw [denL_nil] at h; cases h; simp
  | v :: l, y, h, h1 => by
    obtain ⟨x, z', h2, h3, rfl⟩ := denL_cons_eq h
    simp only [allOne, Bool.and_eq_true] at h1
    intro u hu
    rcases List.mem_cons.1 hu with rfl | hu
    · exact oneCell_den h2 h1.1
    · exact allOne_den h3 h1.2 u hu
theorem cells_den {σ : List (Nat × Nat)} {v : V} {x : Value} (h : den σ v = some x) : denL σ (cellsOf v) = some x.cells.toList := by
  cases v <;> simp only [cellsOf]
  case agg cs =>
    simp only [den] at h
    cases ha : denL σ cs with
    | none => rw [ha] at h; cases h
    | some y => rw [ha] at h; cases h; rfl
  all_goals
    rw [denL_cons h denL_nil]
    simp only [den] at h
    first
      | (cases h; rfl)
      | (split at h <;> first | (cases h; rfl) | (split at h <;> first | (cases h; rfl) | cases h) | cases h)

/-- trees -/
theorem T.all_mono {α : Type} {Q Q' : α → Prop} (h : ∀ a, Q a → Q' a) : ∀ {t : T α}, t.all Q → t.all Q'
  | .ret a, k => h a k
  | .br b t e, k => ⟨fun hb => T.all_mono h (k.1 hb), fun hb => T.all_mono h (k.2 hb)⟩
  | .bad, k => k
theorem T.all_bind {α β : Type} {Q : β → Prop} {f : α → T β} : ∀ {t : T α}, (t.bind f).all Q → t.all (fun a => (f a).all Q)
  | .ret _, k => k
  | .br _ _ _, k => ⟨fun hb => T.all_bind (k.1 hb), fun hb => T.all_bind (k.2 hb)⟩
  | .bad, k => k
theorem T.all_ex {α : Type} {Q : α → Prop} : ∀ {t : T α}, t.all Q → ∃ a, Q a
  | .ret a, k => ⟨a, k⟩
  | .br b t e, k => by cases b with
    | true => exact T.all_ex (k.1 rfl)
    | false => exact T.all_ex (k.2 rfl)
  | .bad, k => k.elim
theorem T.all_and {α : Type} {Q Q' : α → Prop} : ∀ {t : T α}, t.all Q → t.all Q' → t.all (fun a => Q a ∧ Q' a)
  | .ret _, h, k => ⟨h, k⟩
  | .br _ _ _, h, k => ⟨fun hb => T.all_and (h.1 hb) (k.1 hb), fun hb => T.all_and (h.2 hb) (k.2 hb)⟩
  | .bad, h, _ => h
theorem T.all_of_allB {α : Type} {q : α → Bool} : ∀ {t : T α}, t.allB q = true → t.all (fun a => q a = true)
  | .ret _, k => k
  | .br _ t e, k => by
    simp only [T.allB, Bool.and_eq_true] at k
    exact ⟨fun _ => T.all_of_allB k.1, fun _ => T.all_of_allB k.2⟩
  | .bad, k => by cases k

/-- tables -/
theorem PT.get_set {α : Type} : ∀ (t : PT α) (k j : Nat) (x y : α), (t.set k x).get j = some y → (j = k ∧ y = x) ∨ (j ≠ k ∧ t.get j = some y)
  | .e, _, _, _, _, h => by simp [PT.set, PT.get] at h
  | .n v l r, k, j, x, y, h => by
    unfold PT.set at h
    cases hk : Nat.beq k 0 with
    | true =>
      have k0 : k = 0 := Nat.eq_of_beq_eq_true hk
      subst k0
      simp only at h
      unfold PT.get at h ⊢
      cases hj : Nat.beq j 0 with
      | true =>
        have j0 : j = 0 := Nat.eq_of_beq_eq_true hj
        simp only [hj, Option.some.injEq] at h
        exact .inl ⟨j0, h.symm⟩
      | false =>
        have j0 : j ≠ 0 := fun e => by subst e; cases hj
        simp only [hj] at h ⊢
        exact .inr ⟨j0, h⟩
    | false =>
      have k0 : k ≠ 0 := fun e => by subst e; cases hk
      simp only [hk] at h
      cases hk2 : Nat.beq (k % 2) 1 with
      | true =>
        have e1 : k % 2 = 1 := Nat.eq_of_beq_eq_true hk2
        simp only [hk2] at h
        unfold PT.get at h ⊢
        cases hj : Nat.beq j 0 with
        | true =>
          have j0 : j = 0 := Nat.eq_of_beq_eq_true hj
          simp only [hj] at h ⊢
          exact .inr ⟨by omega, h⟩
        | false =>
          have j0 : j ≠ 0 := fun e => by subst e; cases hj
          simp only [hj] at h ⊢
          cases hj2 : Nat.beq (j % 2) 1 with
          | true =>
            have e2 : j % 2 = 1 := Nat.eq_of_beq_eq_true hj2
            simp only [hj2] at h ⊢
            rcases PT.get_set l _ _ _ _ h with ⟨e, rfl⟩ | ⟨e, h'⟩
            · exact .inl ⟨by omega, rfl⟩
            · exact .inr ⟨by omega, h'⟩
          | false =>
            have e2 : ¬ j % 2 = 1 := fun e => by rw [e] at hj2; cases hj2
            simp only [hj2] at h ⊢
            exact .inr ⟨by omega, h⟩
      | false =>
        have e1 : ¬ k % 2 = 1 := fun e => by rw [e] at hk2; cases hk2
        simp only [hk2] at h
        unfold PT.get at h ⊢
        cases hj : Nat.beq j 0 with
        | true =>
          have j0 : j = 0 := Nat.eq_of_beq_eq_true hj
          simp only [hj] at h ⊢
          exact .inr ⟨by omega, h⟩
        | false =>
          have j0 : j ≠ 0 := fun e => by subst e; cases hj
          simp only [hj] at h ⊢
          cases hj2 : Nat.beq (j % 2) 1 with
          | true =>
            have e2 : j % 2 = 1 := Nat.eq_of_beq_eq_true hj2
            simp only [hj2] at h ⊢
            exact .inr ⟨by omega, h⟩
          | false =>
            have e2 : ¬ j % 2 = 1 := fun e => by rw [e] at hj2; cases hj2
            simp only [hj2] at h ⊢
            rcases PT.get_set r _ _ _ _ h with ⟨e, rfl⟩ | ⟨e, h'⟩
            · exact .inl ⟨by omega, rfl⟩
            · exact .inr ⟨by omega, h'⟩
theorem PT.get_full {α : Type} (v : Option α) : ∀ (d k : Nat) (x : α), (PT.full v d).get k = some x → v = some x
  | 0, _, _, h => by simp [PT.full, PT.get] at h
  | d + 1, k, x, h => by
    unfold PT.full PT.get at h
    split at h
    · exact h
    · split at h
      · exact PT.get_full v d _ _ h
      · exact PT.get_full v d _ _ h

/-- but for some blocks the world is what it was -/
structure Fr (S : List Nat) (w0 w : World) : Prop where
  os : w.os = w0.os
  tape : w.tape = w0.tape
  output : w.output = w0.output
  size : w0.heap.size ≤ w.heap.size
  block : ∀ k, k < w0.heap.size → k ∉ S → w.heap[k]? = w0.heap[k]?

def holds (σ : List (Nat × Nat)) (w : World) (b c : Nat) : Blk → Prop
  | .cells t cs => ∃ xs, denL σ cs = some xs ∧ w.heap[b]? = some (.cells xs.toArray t (0, 0))
  | .row t z xs => ∃ ys cur, denL σ xs = some ys ∧ w.heap[b]? = some (.cells cur t (0, 0)) ∧ cur.toList.take ys.length = ys ∧ cur.size = c * z ∧ c ≤ maxLen ∧ 0 < z
  | .gone => True
def Blk.isCells : Blk → Bool
  | .cells _ _ => true
  | _ => false

theorem holds_pre {σ τ : List (Nat × Nat)} {w : World} {b c : Nat} {k : Blk} (h : holds σ w b c k) : holds (σ ++ τ) w b c k := by
  cases k with
  | cells t cs => obtain ⟨xs, h1, h2⟩ := h; exact ⟨xs, denL_pre _ _ _ _ h1, h2⟩
  | row t z xs => obtain ⟨ys, cur, h1, h2⟩ := h; exact ⟨ys, cur, denL_pre _ _ _ _ h1, h2⟩
  | gone => trivial
theorem holds_at {σ : List (Nat × Nat)} {w w' : World} {b c : Nat} {k : Blk} (h : holds σ w b c k) (e : k.live = true → w'.heap[b]? = w.heap[b]?) : holds σ w' b c k := by
  cases k with
  | cells t cs => obtain ⟨xs, h1, h2⟩ := h; exact ⟨xs, h1, by rw [e rfl]; exact h2⟩
  | row t z xs => obtain ⟨ys, cur, h1, h2, h3⟩ := h; exact ⟨ys, cur, h1, by rw [e rfl]; exact h2, h3⟩
  | gone => trivial
theorem holds_lt {σ : List (Nat × Nat)} {w : World} {b c : Nat} {k : Blk} (h : holds σ w b c k) (hl : k.live = true) : b < w.heap.size := by
  cases k with
  | cells t cs => obtain ⟨xs, h1, h2⟩ := h; exact (Array.getElem?_eq_some_iff.1 h2).1
  | row t z xs => obtain ⟨ys, cur, h1, h2, h3⟩ := h; exact (Array.getElem?_eq_some_iff.1 h2).1
  | gone => cases hl

/-- memory is what its names say -/
structure RM (S : List Nat) (w0 : World) (σ : List (Nat × Nat)) (m : Mem) (w : World) : Prop where
  fr : Fr S w0 w
  len : σ.length = m.next
  blk : ∀ n k, m.blks.get n = some k → ∃ b c, σ[n]? = some (b, c) ∧ holds σ w b c k
  own : ∀ n k, m.blks.get n = some k → m.lim ≤ n → k.live = true → ∀ b c, σ[n]? = some (b, c) → w0.heap.size ≤ b ∨ (b ∈ S ∧ k.isCells = true)
  inj : ∀ i j k l, m.blks.get i = some k → m.blks.get j = some l → i ≠ j → k.live = true → l.live = true → ∀ x y, σ[i]? = some x → σ[j]? = some y → x.1 ≠ y.1

/-- the slots are what they say -/
structure RT (σ : List (Nat × Nat)) (n : Nat) (tm : PT V) (a : Act) : Prop where
  size : a.tmps.size = n
  get : ∀ i v, tm.get i = some v → den σ v = some (a.tmps.getD i undef)
  defers : a.defers = []

theorem RT.pre {σ τ : List (Nat × Nat)} {n : Nat} {tm : PT V} {a : Act} (h : RT σ n tm a) : RT (σ ++ τ) n tm a :=
  ⟨h.size, fun i v hv => den_pre _ _ _ _ (h.get i v hv), h.defers⟩

theorem getD_set (a : Array Value) (d i : Nat) (v u : Value) (h : d < a.size) : (a.setIfInBounds d v).getD i u = if i = d then v else a.getD i u := by
  simp only [Array.getD_eq_getD_getElem?, Array.getElem?_setIfInBounds]
  by_cases e : i = d
  · subst e; simp [h]
  · have : ¬ d = i := fun x => e x.symm
    simp [this, e]
theorem RT.put {σ : List (Nat × Nat)} {n : Nat} {tm : PT V} {a : Act} (h : RT σ n tm a) {dst : Option Tmp} {v : V} {x : Value} (hv : den σ v = some x) : RT σ n (put n tm dst v) (a.put dst x) := by
  cases dst with
  | none => exact h
  | some d =>
    cases hd : Nat.blt d n with
    | true =>
      have hlt : d < a.tmps.size := by rw [h.size]; simpa using hd
      have e : Sy.put n tm (some d) v = tm.set d v := by simp [Sy.put, hd]
      rw [e]
      refine ⟨by simpa [Act.put] using h.size, ?_, h.defers⟩
      intro i u hu
      show _ = some ((a.tmps.setIfInBounds d x).getD i undef)
      rw [getD_set _ _ _ _ _ hlt]
      rcases PT.get_set _ _ _ _ _ hu with ⟨rfl, rfl⟩ | ⟨e, hu⟩
      · rw [if_pos rfl]; exact hv
      · rw [if_neg e]; exact h.get i u hu
    | false =>
      have hge : ¬ d < a.tmps.size := by rw [h.size]; intro hh; rw [show Nat.blt d n = true from by simpa using hh] at hd; cases hd
      have e : Sy.put n tm (some d) v = tm := by simp [Sy.put, hd]
      rw [e]
      refine ⟨by simpa [Act.put] using h.size, ?_, h.defers⟩
      intro i u hu
      show _ = some ((a.tmps.setIfInBounds d x).getD i undef)
      unfold Array.setIfInBounds
      rw [dif_neg hge]
      exact h.get i u hu
end Go.Proofs.Ytkjfhkhcoenanaa.Sy
