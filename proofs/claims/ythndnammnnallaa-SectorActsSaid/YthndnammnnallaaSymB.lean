/- The evaluator over memory known by name: what its words mean. -/
import Derived.Test.YthndnammnnallaaSymA
namespace Go.Proofs.Ythndnammnnallaa.Sy
open Go.RowKit

def Cp.den (c : Nat) : Cp → Nat
  | .s n => n
  | .row k => c - k
mutual
/-- the value that is meant, where the i-th name is that block (and that capacity) -/
def den (ρ : Nat → Int) (σ : List (Nat × Nat)) : V → Option Value
  | .bool b => some (.bool (b.val ρ))
  | .int k n => some (.int k (n.val ρ))
  | .str s => some (.string s)
  | .nilp => some (.pointer none)
  | .ptr b o => match σ[b]? with
    | some x => some (.pointer (some ⟨x.1, o, none⟩))
    | none => none
  | .nils => some (.slice none 0 0)
  | .slice b o l c => match σ[b]? with
    | some x => some (.slice (some ⟨x.1, o, none⟩) l (c.den x.2))
    | none => none
  | .sl b o l => match σ[b]? with
    | some x => some (.slice (some ⟨x.1, (o.val ρ).toNat, none⟩) (l.val ρ).toNat x.2)
    | none => none
  | .pel b o z i j => match σ[b]? with
    | some x => some (.pointer (some ⟨x.1, (o.val ρ).toNat + (i.val ρ).toNat * z + j, none⟩))
    | none => none
  | .nilm => some (.map none)
  | .map b => match σ[b]? with
    | some x => some (.map (some x.1))
    | none => none
  | .nilf => some .nilFunc
  | .func f a c => match denL ρ σ a with
    | some x => match denL ρ σ c with
      | some y => some (.func f x.toArray y.toArray)
      | none => none
    | none => none
  | .nili => some .nilIface
  | .iface t v => match den ρ σ v with
    | some x => some (.iface t x)
    | none => none
  | .agg cs => match denL ρ σ cs with
    | some x => some (.agg x.toArray)
    | none => none
  | .tup cs => match denL ρ σ cs with
    | some x => some (.tuple x.toArray)
    | none => none
def denL (ρ : Nat → Int) (σ : List (Nat × Nat)) : List V → Option (List Value)
  | [] => some []
  | v :: l => match den ρ σ v with
    | some x => match denL ρ σ l with
      | some y => some (x :: y)
      | none => none
    | none => none
end

theorem get_pre {α : Type} {σ τ : List α} {i : Nat} {x : α} (h : σ[i]? = some x) : (σ ++ τ)[i]? = some x := by
  have hi : i < σ.length := by
    rcases Nat.lt_or_ge i σ.length with h1 | h1
    · exact h1
    · rw [List.getElem?_eq_none h1] at h; cases h
  rw [List.getElem?_append_left hi]; exact h

mutual
theorem den_pre (ρ : Nat → Int) (σ τ : List (Nat × Nat)) : ∀ (v : V) (x : Value), den ρ σ v = some x → den ρ (σ ++ τ) v = some x
  | .bool _, _, h | .int _ _, _, h | .str _, _, h | .nilp, _, h | .nils, _, h | .nilm, _, h | .nilf, _, h | .nili, _, h => by simpa only [den] using h
  | .ptr b _, _, h | .slice b _ _ _, _, h | .sl b _ _, _, h | .pel b _ _ _ _, _, h | .map b, _, h => by
    simp only [den] at h ⊢
    cases hb : σ[b]? with
    | none => rw [hb] at h; cases h
    | some y => rw [hb] at h; rw [get_pre hb]; exact h
  | .func f a c, _, h => by
    simp only [den] at h ⊢
    cases ha : denL ρ σ a with
    | none => rw [ha] at h; cases h
    | some y =>
      rw [ha] at h; rw [denL_pre ρ σ τ a y ha]
      simp only at h ⊢
      cases hc : denL ρ σ c with
      | none => rw [hc] at h; cases h
      | some z => rw [hc] at h; rw [denL_pre ρ σ τ c z hc]; exact h
  | .iface t v, _, h => by
    simp only [den] at h ⊢
    cases ha : den ρ σ v with
    | none => rw [ha] at h; cases h
    | some y => rw [ha] at h; rw [den_pre ρ σ τ v y ha]; exact h
  | .agg cs, _, h | .tup cs, _, h => by
    simp only [den] at h ⊢
    cases ha : denL ρ σ cs with
    | none => rw [ha] at h; cases h
    | some y => rw [ha] at h; rw [denL_pre ρ σ τ cs y ha]; exact h
theorem denL_pre (ρ : Nat → Int) (σ τ : List (Nat × Nat)) : ∀ (l : List V) (x : List Value), denL ρ σ l = some x → denL ρ (σ ++ τ) l = some x
  | [], _, h => by simpa only [denL] using h
  | v :: l, _, h => by
    simp only [denL] at h ⊢
    cases ha : den ρ σ v with
    | none => rw [ha] at h; cases h
    | some y =>
      rw [ha] at h; rw [den_pre ρ σ τ v y ha]
      simp only at h ⊢
      cases hc : denL ρ σ l with
      | none => rw [hc] at h; cases h
      | some z => rw [hc] at h; rw [denL_pre ρ σ τ l z hc]; exact h
end

theorem get_back {α : Type} {σ τ : List α} {i n : Nat} {x : α} (hn : σ.length = n) (hi : Nat.blt i n = true) (h : (σ ++ τ)[i]? = some x) : σ[i]? = some x := by
  have : i < σ.length := by rw [hn]; simpa using hi
  rw [List.getElem?_append_left this] at h; exact h
mutual
theorem den_back (ρ : Nat → Int) (σ τ : List (Nat × Nat)) (n : Nat) (hn : σ.length = n) : ∀ (v : V) (x : Value), vbel n v = true → den ρ (σ ++ τ) v = some x → den ρ σ v = some x
  | .bool _, _, _, h | .int _ _, _, _, h | .str _, _, _, h | .nilp, _, _, h | .nils, _, _, h | .nilm, _, _, h | .nilf, _, _, h | .nili, _, _, h => by simpa only [den] using h
  | .ptr b _, _, hb, h | .slice b _ _ _, _, hb, h | .sl b _ _, _, hb, h | .pel b _ _ _ _, _, hb, h | .map b, _, hb, h => by
    simp only [den, vbel] at h hb ⊢
    cases hx : (σ ++ τ)[b]? with
    | none => rw [hx] at h; cases h
    | some y => rw [hx] at h; rw [get_back hn hb hx]; exact h
  | .func f a c, _, hb, h => by
    simp only [den, vbel, Bool.and_eq_true] at h hb ⊢
    cases ha : denL ρ (σ ++ τ) a with
    | none => rw [ha] at h; cases h
    | some y =>
      rw [ha] at h; rw [denL_back ρ σ τ n hn a y hb.1 ha]
      simp only at h ⊢
      cases hc : denL ρ (σ ++ τ) c with
      | none => rw [hc] at h; cases h
      | some z => rw [hc] at h; rw [denL_back ρ σ τ n hn c z hb.2 hc]; exact h
  | .iface t v, _, hb, h => by
    simp only [den, vbel] at h hb ⊢
    cases ha : den ρ (σ ++ τ) v with
    | none => rw [ha] at h; cases h
    | some y => rw [ha] at h; rw [den_back ρ σ τ n hn v y hb ha]; exact h
  | .agg cs, _, hb, h | .tup cs, _, hb, h => by
    simp only [den, vbel] at h hb ⊢
    cases ha : denL ρ (σ ++ τ) cs with
    | none => rw [ha] at h; cases h
    | some y => rw [ha] at h; rw [denL_back ρ σ τ n hn cs y hb ha]; exact h
theorem denL_back (ρ : Nat → Int) (σ τ : List (Nat × Nat)) (n : Nat) (hn : σ.length = n) : ∀ (l : List V) (x : List Value), vbels n l = true → denL ρ (σ ++ τ) l = some x → denL ρ σ l = some x
  | [], _, _, h => by simpa only [denL] using h
  | v :: l, _, hb, h => by
    simp only [denL, vbels, Bool.and_eq_true] at h hb ⊢
    cases ha : den ρ (σ ++ τ) v with
    | none => rw [ha] at h; cases h
    | some y =>
      rw [ha] at h; rw [den_back ρ σ τ n hn v y hb.1 ha]
      simp only at h ⊢
      cases hc : denL ρ (σ ++ τ) l with
      | none => rw [hc] at h; cases h
      | some z => rw [hc] at h; rw [denL_back ρ σ τ n hn l z hb.2 hc]; exact h
end

section lists
variable {ρ : Nat → Int} {σ : List (Nat × Nat)}
theorem denL_nil : denL ρ σ [] = some [] := by simp only [denL]
theorem denL_cons_eq {v : V} {l : List V} {y : List Value} (h : denL ρ σ (v :: l) = some y) : ∃ x z, den ρ σ v = some x ∧ denL ρ σ l = some z ∧ y = x :: z := by
  simp only [denL] at h
  cases ha : den ρ σ v with
  | none => rw [ha] at h; cases h
  | some x =>
    rw [ha] at h
    simp only at h
    cases hb : denL ρ σ l with
    | none => rw [hb] at h; cases h
    | some z => rw [hb] at h; exact ⟨x, z, rfl, rfl, (Option.some.inj h).symm⟩
theorem denL_cons {v : V} {l : List V} {x : Value} {z : List Value} (h1 : den ρ σ v = some x) (h2 : denL ρ σ l = some z) : denL ρ σ (v :: l) = some (x :: z) := by
  simp only [denL, h1, h2]
theorem denL_length : ∀ {l : List V} {y : List Value}, denL ρ σ l = some y → y.length = l.length
  | [], y, h => by rw [denL_nil] at h; cases h; rfl
  | v :: l, y, h => by
    obtain ⟨x, z, _, h2, rfl⟩ := denL_cons_eq h
    simp [denL_length h2]
theorem denL_append : ∀ {l k : List V} {y z : List Value}, denL ρ σ l = some y → denL ρ σ k = some z → denL ρ σ (l ++ k) = some (y ++ z)
  | [], k, y, z, h, h2 => by rw [denL_nil] at h; cases h; simpa using h2
  | v :: l, k, y, z, h, h2 => by
    obtain ⟨x, z', h1, h3, rfl⟩ := denL_cons_eq h
    exact denL_cons h1 (denL_append h3 h2)
theorem denL_take : ∀ {l : List V} {y : List Value} (n : Nat), denL ρ σ l = some y → denL ρ σ (l.take n) = some (y.take n)
  | l, y, 0, h => by simp [denL_nil]
  | [], y, n + 1, h => by rw [denL_nil] at h; cases h; simp [denL_nil]
  | v :: l, y, n + 1, h => by
    obtain ⟨x, z', h1, h3, rfl⟩ := denL_cons_eq h
    exact denL_cons h1 (denL_take n h3)
theorem denL_drop : ∀ {l : List V} {y : List Value} (n : Nat), denL ρ σ l = some y → denL ρ σ (l.drop n) = some (y.drop n)
  | l, y, 0, h => by simpa using h
  | [], y, n + 1, h => by rw [denL_nil] at h; cases h; simp [denL_nil]
  | v :: l, y, n + 1, h => by
    obtain ⟨x, z', h1, h3, rfl⟩ := denL_cons_eq h
    exact denL_drop n h3
theorem nth_cons {α : Type} (a : α) (l : List α) (n : Nat) : nth (a :: l) n = Bool.rec (nth l (Nat.pred n)) (some a) (Nat.beq n 0) := rfl
theorem nth_eq {α : Type} : ∀ (l : List α) (n : Nat), nth l n = l[n]?
  | [], n => by simp [show nth ([] : List α) n = none from rfl]
  | a :: l, n => by
    rw [nth_cons]
    cases hn : Nat.beq n 0 with
    | true => have : n = 0 := Nat.eq_of_beq_eq_true hn; subst this; rfl
    | false =>
      have : n ≠ 0 := fun e => by subst e; cases hn
      obtain ⟨m, rfl⟩ : ∃ m, n = m + 1 := ⟨n - 1, by omega⟩
      show nth l (Nat.pred (m + 1)) = _
      rw [nth_eq l]
      simp
theorem denL_nth : ∀ {l : List V} {y : List Value} {n : Nat} {v : V}, denL ρ σ l = some y → l[n]? = some v → ∃ x, y[n]? = some x ∧ den ρ σ v = some x
  | [], y, n, v, h, h2 => by simp at h2
  | v :: l, y, 0, u, h, h2 => by
    obtain ⟨x, z', h1, h3, rfl⟩ := denL_cons_eq h
    simp at h2; subst h2
    exact ⟨x, rfl, h1⟩
  | v :: l, y, n + 1, u, h, h2 => by
    obtain ⟨x, z', h1, h3, rfl⟩ := denL_cons_eq h
    simp at h2
    obtain ⟨x', e1, e2⟩ := denL_nth h3 h2
    exact ⟨x', by simpa using e1, e2⟩
end lists

/-- what an op of one cell is -/
theorem oneCell_den {ρ : Nat → Int} {σ : List (Nat × Nat)} {v : V} {x : Value} (h : den ρ σ v = some x) (h1 : oneCell v = true) : x.oneCell' = true := by
  cases v <;> simp only [oneCell, Bool.false_eq_true] at h1 <;> simp only [den] at h
  all_goals first
    | (cases h; rfl)
    | (split at h <;> first | (cases h; rfl) | (split at h <;> first | (cases h; rfl) | cases h) | cases h)
theorem allOne_den {ρ : Nat → Int} {σ : List (Nat × Nat)} : ∀ {l : List V} {y : List Value}, denL ρ σ l = some y → allOne l = true → ∀ x ∈ y, x.oneCell' = true
  | [], y, h, _ => by rw [denL_nil] at h; cases h; simp
  | v :: l, y, h, h1 => by
    obtain ⟨x, z', h2, h3, rfl⟩ := denL_cons_eq h
    simp only [allOne, Bool.and_eq_true] at h1
    intro u hu
    rcases List.mem_cons.1 hu with rfl | hu
    · exact oneCell_den h2 h1.1
    · exact allOne_den h3 h1.2 u hu
theorem cells_den {ρ : Nat → Int} {σ : List (Nat × Nat)} {v : V} {x : Value} (h : den ρ σ v = some x) : denL ρ σ (cellsOf v) = some x.cells.toList := by
  cases v <;> simp only [cellsOf]
  case agg cs =>
    simp only [den] at h
    cases ha : denL ρ σ cs with
    | none => rw [ha] at h; cases h
    | some y => rw [ha] at h; cases h; rfl
  all_goals
    rw [denL_cons h denL_nil]
    simp only [den] at h
    first
      | (cases h; rfl)
      | (split at h <;> first | (cases h; rfl) | (split at h <;> first | (cases h; rfl) | cases h) | cases h)

section trees
variable {ρ : Nat → Int}
theorem T.all_mono {α : Type} {Q Q' : α → Prop} (h : ∀ a, Q a → Q' a) : ∀ {t : T α}, t.all ρ Q → t.all ρ Q'
  | .ret a, k => h a k
  | .br b t e, k => ⟨fun hb => T.all_mono h (k.1 hb), fun hb => T.all_mono h (k.2 hb)⟩
  | .alt t e, k => ⟨T.all_mono h k.1, T.all_mono h k.2⟩
  | .bad, k => k
theorem T.all_ex {α : Type} {Q : α → Prop} : ∀ {t : T α}, t.all ρ Q → ∃ a, Q a
  | .ret a, k => ⟨a, k⟩
  | .br b t e, k => by cases hb : b.val ρ with
    | true => exact T.all_ex (k.1 hb)
    | false => exact T.all_ex (k.2 hb)
  | .alt t e, k => T.all_ex k.1
  | .bad, k => k.elim
theorem T.all_and {α : Type} {Q Q' : α → Prop} : ∀ {t : T α}, t.all ρ Q → t.all ρ Q' → t.all ρ (fun a => Q a ∧ Q' a)
  | .ret _, h, k => ⟨h, k⟩
  | .br _ _ _, h, k => ⟨fun hb => T.all_and (h.1 hb) (k.1 hb), fun hb => T.all_and (h.2 hb) (k.2 hb)⟩
  | .alt _ _, h, k => ⟨T.all_and h.1 k.1, T.all_and h.2 k.2⟩
  | .bad, h, _ => h
theorem T.all_of_allB {α : Type} {q : α → Bool} : ∀ {t : T α}, t.allB q = true → t.all ρ (fun a => q a = true)
  | .ret _, k => k
  | .br _ t e, k => by
    simp only [T.allB, Bool.and_eq_true] at k
    exact ⟨fun _ => T.all_of_allB k.1, fun _ => T.all_of_allB k.2⟩
  | .alt t e, k => by
    simp only [T.allB, Bool.and_eq_true] at k
    exact ⟨T.all_of_allB k.1, T.all_of_allB k.2⟩
  | .bad, k => by cases k
/-- the way that is gone -/
def T.pick (ρ : Nat → Int) {α : Type} : T α → Option α
  | .ret a => some a
  | .br b t e => match b.val ρ with
    | true => t.pick ρ
    | false => e.pick ρ
  | .alt _ _ => none
  | .bad => none
theorem T.all_pick {α : Type} {q : α → Bool} {Q : α → Prop} : ∀ {t : T α}, t.allD q = true → t.all ρ Q → ∃ a, t.pick ρ = some a ∧ q a = true ∧ Q a
  | .ret a, k, h => ⟨a, rfl, k, h⟩
  | .br b t e, k, h => by
    simp only [T.allD, Bool.and_eq_true] at k
    cases hb : b.val ρ with
    | true => obtain ⟨a, h1, h2⟩ := T.all_pick (t := t) k.1 (h.1 hb); exact ⟨a, by simp only [T.pick, hb, h1], h2⟩
    | false => obtain ⟨a, h1, h2⟩ := T.all_pick (t := e) k.2 (h.2 hb); exact ⟨a, by simp only [T.pick, hb, h1], h2⟩
  | .alt t e, k, _ => by cases k
  | .bad, k, _ => by cases k
theorem T.pick_all {α : Type} {Q : α → Prop} : ∀ {t : T α} {a : α}, t.pick ρ = some a → Q a → t.all ρ Q
  | .ret a, _, h, k => by cases h; exact k
  | .br b t e, _, h, k => by
    cases hb : b.val ρ with
    | true => simp only [T.pick, hb] at h; exact ⟨(fun _ => T.pick_all (t := t) h k), (fun h2 => by rw [hb] at h2; cases h2)⟩
    | false => simp only [T.pick, hb] at h; exact ⟨(fun h2 => by rw [hb] at h2; cases h2), (fun _ => T.pick_all (t := e) h k)⟩
  | .alt t e, _, h, _ => by cases h
  | .bad, _, h, _ => by cases h
end trees

theorem forceN_eq {α : Type} (n : Nat) (f : Nat → α) : forceN n f = f n := by cases n <;> rfl
theorem forceI_eq {α : Type} (n : Int) (f : Int → α) : forceI n f = f n := by
  cases n with
  | ofNat m => exact forceN_eq m (fun m => f (.ofNat m))
  | negSucc m => exact forceN_eq m (fun m => f (.negSucc m))
theorem forceE_eq {α : Type} : ∀ (e : E) (f : E → α), forceE e f = f e
  | .v i, f => forceN_eq i (fun i => f (.v i))
  | .c n, f => forceI_eq n (fun n => f (.c n))
  | .bin o k a b, f => by
    show forceE a (fun a => forceE b fun b => f (.bin o k a b)) = _
    rw [forceE_eq a, forceE_eq b]
  | .ld k a i, f => by
    show forceN a (fun a => forceE i fun i => f (.ld k a i)) = _
    rw [forceN_eq, forceE_eq i]
  | .wrap k a, f => by
    show forceE a (fun a => f (.wrap k a)) = _
    rw [forceE_eq a]
theorem forceB_eq {α : Type} : ∀ (b : B) (f : B → α), forceB b f = f b
  | .lt a b, f => by
    show forceE a (fun a => forceE b fun b => f (.lt a b)) = _
    rw [forceE_eq a, forceE_eq b]
  | .eq a b, f => by
    show forceE a (fun a => forceE b fun b => f (.eq a b)) = _
    rw [forceE_eq a, forceE_eq b]
  | .not b, f => by
    show forceB b (fun b => f (.not b)) = _
    rw [forceB_eq b]
  | .and a b, f => by
    show forceB a (fun a => forceB b fun b => f (.and a b)) = _
    rw [forceB_eq a, forceB_eq b]
theorem forceDN_eq {α : Type} (n : DN) (f : DN → α) : forceDN n f = f n := by
  cases n with
  | s n => exact forceI_eq n (fun n => f (.s n))
  | d e => exact forceE_eq e (fun e => f (.d e))
theorem forceDB_eq {α : Type} (b : DB) (f : DB → α) : forceDB b f = f b := by
  cases b with
  | s b => cases b <;> rfl
  | d b => exact forceB_eq b (fun b => f (.d b))
theorem PT.get_n {α : Type} (v : Option α) (l r : PT α) (k : Nat) : (PT.n v l r).get k = Bool.rec (Bool.rec (r.get (Nat.pred (Nat.div k 2))) (l.get (Nat.div k 2)) (Nat.beq (Nat.mod k 2) 1)) v (Nat.beq k 0) := rfl
theorem PT.set_n {α : Type} (v : Option α) (l r : PT α) (k : Nat) (x : α) : (PT.n v l r).set k x = Bool.rec (Bool.rec (.n v l (r.set (Nat.pred (Nat.div k 2)) x)) (.n v (l.set (Nat.div k 2) x) r) (Nat.beq (Nat.mod k 2) 1)) (.n (some x) l r) (Nat.beq k 0) := rfl
theorem PT.get_e {α : Type} (k : Nat) : (PT.e : PT α).get k = none := rfl
theorem PT.set_e {α : Type} (k : Nat) (x : α) : (PT.e : PT α).set k x = .e := rfl
theorem PT.get_0 {α : Type} (v : Option α) (l r : PT α) : (PT.n v l r).get 0 = v := rfl
theorem PT.get_l {α : Type} (v : Option α) (l r : PT α) (k : Nat) : (PT.n v l r).get (2 * k + 1) = l.get k := by
  rw [PT.get_n]
  have h0 : Nat.beq (2 * k + 1) 0 = false := rfl
  have h1 : Nat.beq (Nat.mod (2 * k + 1) 2) 1 = true := by
    have : Nat.mod (2 * k + 1) 2 = 1 := by show (2 * k + 1) % 2 = 1; omega
    rw [this]; rfl
  have h2 : Nat.div (2 * k + 1) 2 = k := by show (2 * k + 1) / 2 = k; omega
  rw [h0, h1, h2]
theorem PT.get_r {α : Type} (v : Option α) (l r : PT α) (k : Nat) : (PT.n v l r).get (2 * k + 2) = r.get k := by
  rw [PT.get_n]
  have h0 : Nat.beq (2 * k + 2) 0 = false := rfl
  have h1 : Nat.beq (Nat.mod (2 * k + 2) 2) 1 = false := by
    have : Nat.mod (2 * k + 2) 2 = 0 := by show (2 * k + 2) % 2 = 0; omega
    rw [this]; rfl
  have h2 : Nat.pred (Nat.div (2 * k + 2) 2) = k := by show (2 * k + 2) / 2 - 1 = k; omega
  rw [h0, h1, h2]
theorem PT.set_0 {α : Type} (v : Option α) (l r : PT α) (x : α) : (PT.n v l r).set 0 x = .n (some x) l r := rfl
theorem PT.set_l {α : Type} (v : Option α) (l r : PT α) (k : Nat) (x : α) : (PT.n v l r).set (2 * k + 1) x = .n v (l.set k x) r := by
  rw [PT.set_n]
  have h0 : Nat.beq (2 * k + 1) 0 = false := rfl
  have h1 : Nat.beq (Nat.mod (2 * k + 1) 2) 1 = true := by
    have : Nat.mod (2 * k + 1) 2 = 1 := by show (2 * k + 1) % 2 = 1; omega
    rw [this]; rfl
  have h2 : Nat.div (2 * k + 1) 2 = k := by show (2 * k + 1) / 2 = k; omega
  rw [h0, h1, h2]
theorem PT.set_r {α : Type} (v : Option α) (l r : PT α) (k : Nat) (x : α) : (PT.n v l r).set (2 * k + 2) x = .n v l (r.set k x) := by
  rw [PT.set_n]
  have h0 : Nat.beq (2 * k + 2) 0 = false := rfl
  have h1 : Nat.beq (Nat.mod (2 * k + 2) 2) 1 = false := by
    have : Nat.mod (2 * k + 2) 2 = 0 := by show (2 * k + 2) % 2 = 0; omega
    rw [this]; rfl
  have h2 : Nat.pred (Nat.div (2 * k + 2) 2) = k := by show (2 * k + 2) / 2 - 1 = k; omega
  rw [h0, h1, h2]
theorem three (k : Nat) : k = 0 ∨ (∃ j, k = 2 * j + 1) ∨ ∃ j, k = 2 * j + 2 := by
  rcases Nat.eq_zero_or_pos k with h | h
  · exact .inl h
  · rcases Nat.mod_two_eq_zero_or_one k with h2 | h2
    · exact .inr (.inr ⟨k / 2 - 1, by omega⟩)
    · exact .inr (.inl ⟨k / 2, by omega⟩)
theorem PT.get_set {α : Type} : ∀ (t : PT α) (k j : Nat) (x y : α), (t.set k x).get j = some y → (j = k ∧ y = x) ∨ (j ≠ k ∧ t.get j = some y)
  | .e, _, _, _, _, h => by rw [PT.set_e, PT.get_e] at h; cases h
  | .n v l r, k, j, x, y, h => by
    rcases three k with rfl | ⟨k', rfl⟩ | ⟨k', rfl⟩ <;> rcases three j with rfl | ⟨j', rfl⟩ | ⟨j', rfl⟩
    · rw [PT.set_0, PT.get_0] at h; exact .inl ⟨rfl, (Option.some.inj h).symm⟩
    · rw [PT.set_0, PT.get_l] at h; rw [PT.get_l]; exact .inr ⟨by omega, h⟩
    · rw [PT.set_0, PT.get_r] at h; rw [PT.get_r]; exact .inr ⟨by omega, h⟩
    · rw [PT.set_l, PT.get_0] at h; rw [PT.get_0]; exact .inr ⟨by omega, h⟩
    · rw [PT.set_l, PT.get_l] at h; rw [PT.get_l]
      rcases PT.get_set l _ _ _ _ h with ⟨e, rfl⟩ | ⟨e, h'⟩
      · exact .inl ⟨by omega, rfl⟩
      · exact .inr ⟨by omega, h'⟩
    · rw [PT.set_l, PT.get_r] at h; rw [PT.get_r]; exact .inr ⟨by omega, h⟩
    · rw [PT.set_r, PT.get_0] at h; rw [PT.get_0]; exact .inr ⟨by omega, h⟩
    · rw [PT.set_r, PT.get_l] at h; rw [PT.get_l]; exact .inr ⟨by omega, h⟩
    · rw [PT.set_r, PT.get_r] at h; rw [PT.get_r]
      rcases PT.get_set r _ _ _ _ h with ⟨e, rfl⟩ | ⟨e, h'⟩
      · exact .inl ⟨by omega, rfl⟩
      · exact .inr ⟨by omega, h'⟩
theorem PT.get_full {α : Type} (v : Option α) : ∀ (d k : Nat) (x : α), (PT.full v d).get k = some x → v = some x
  | 0, _, _, h => by rw [PT.full, PT.get_e] at h; cases h
  | d + 1, k, x, h => by
    unfold PT.full at h
    rcases three k with rfl | ⟨k', rfl⟩ | ⟨k', rfl⟩
    · exact h
    · rw [PT.get_l] at h; exact PT.get_full v d _ _ h
    · rw [PT.get_r] at h; exact PT.get_full v d _ _ h
theorem odds_get {α : Type} : ∀ (l : List α) (i : Nat), (odds l)[i]? = l[2 * i]?
  | [], i => by simp [odds]
  | [a], i => by cases i <;> simp [odds, Nat.mul_add]
  | a :: b :: l, 0 => by simp [odds]
  | a :: b :: l, i + 1 => by
    have := odds_get l i
    simp only [odds, List.getElem?_cons_succ, this]
    rw [show 2 * (i + 1) = 2 * i + 1 + 1 by omega]
    simp
theorem evens_get {α : Type} : ∀ (l : List α) (i : Nat), (evens l)[i]? = l[2 * i + 1]?
  | [], i => by simp [evens]
  | [a], i => by simp [evens]
  | a :: b :: l, 0 => by simp [evens]
  | a :: b :: l, i + 1 => by
    have := evens_get l i
    simp only [evens, List.getElem?_cons_succ, this]
    rw [show 2 * (i + 1) = 2 * i + 1 + 1 by omega]
    simp
theorem PT.get_ofL {α : Type} : ∀ (d : Nat) (l : List α) (i : Nat) (x : α), (PT.ofL d l).get i = some x → l[i]? = some x
  | 0, l, i, x, h => by rw [PT.ofL, PT.get_e] at h; cases h
  | d + 1, [], i, x, h => by rw [PT.ofL, PT.get_e] at h; cases h
  | d + 1, a :: l, i, x, h => by
    unfold PT.ofL at h
    rcases three i with rfl | ⟨k', rfl⟩ | ⟨k', rfl⟩
    · exact h
    · rw [PT.get_l] at h
      have := PT.get_ofL d _ _ _ h
      rw [odds_get] at this
      simpa using this
    · rw [PT.get_r] at h
      have := PT.get_ofL d _ _ _ h
      rw [evens_get] at this
      simpa using this
theorem PT.getN_get {α : Type} (t : PT α) : ∀ (k o : Nat) (l : List α), t.getN o k = some l → l.length = k ∧ ∀ j, j < k → ∃ x, t.get (o + j) = some x ∧ l[j]? = some x
  | 0, o, l, h => by simp only [PT.getN, Option.some.injEq] at h; subst h; exact ⟨rfl, fun j hj => by omega⟩
  | k + 1, o, l, h => by
    unfold PT.getN at h
    split at h
    · rename_i v hv
      split at h
      · rename_i l' hl
        cases h
        obtain ⟨h1, h2⟩ := PT.getN_get t k (o + 1) l' hl
        refine ⟨by simp [h1], fun j hj => ?_⟩
        cases j with
        | zero => exact ⟨v, hv, rfl⟩
        | succ j =>
          obtain ⟨x, h3, h4⟩ := h2 j (by omega)
          exact ⟨x, by rw [show o + (j + 1) = o + 1 + j by omega]; exact h3, by simpa using h4⟩
      · cases h
    · cases h
theorem PT.get_setN {α : Type} : ∀ (l : List α) (t : PT α) (o j : Nat) (x : α), (t.setN o l).get j = some x → (o ≤ j ∧ l[j - o]? = some x) ∨ ((j < o ∨ o + l.length ≤ j) ∧ t.get j = some x)
  | [], t, o, j, x, h => by
    simp only [PT.setN] at h
    rcases Nat.lt_or_ge j o with h1 | h1
    · exact .inr ⟨.inl h1, h⟩
    · exact .inr ⟨.inr (by simpa using h1), h⟩
  | v :: l, t, o, j, x, h => by
    simp only [PT.setN] at h
    rcases PT.get_setN l _ _ _ _ h with ⟨h1, h2⟩ | ⟨h1, h2⟩
    · exact .inl ⟨by omega, by rw [show j - o = (j - (o + 1)) + 1 by omega]; simpa using h2⟩
    · rcases PT.get_set _ _ _ _ _ h2 with ⟨rfl, rfl⟩ | ⟨hne, h2⟩
      · exact .inl ⟨Nat.le_refl _, by simp⟩
      · refine .inr ⟨?_, h2⟩
        simp only [List.length_cons]
        omega

/-- but for some blocks the world is what it was -/
structure Fr (S : List Nat) (w0 w : World) : Prop where
  os : w.os = w0.os
  tape : w.tape = w0.tape
  output : w.output = w0.output
  size : w0.heap.size ≤ w.heap.size
  block : ∀ k, k < w0.heap.size → k ∉ S → w.heap[k]? = w0.heap[k]?

/-- the first n cells of a row are what the table says of them -/
def cellsOk (ρ : Nat → Int) (σ : List (Nat × Nat)) (cur : Array Value) (n : Nat) (cs : PT V) : Prop :=
  n ≤ cur.size ∧ ∀ i v, i < n → cs.get i = some v → ∃ x, den ρ σ v = some x ∧ cur[i]? = some x
/-- a map's entries -/
def MapOk (ρ : Nat → Int) (σ : List (Nat × Nat)) (es : List (V × V)) (xs : Array MapEntry) : Prop :=
  xs.size = es.length ∧ ∀ i k v, es[i]? = some (k, v) → ∃ kx vx, den ρ σ k = some kx ∧ den ρ σ v = some vx ∧ xs[i]? = some (MapEntry.mk kx vx i)
theorem MapOk.pre {ρ : Nat → Int} {σ τ : List (Nat × Nat)} {es : List (V × V)} {xs : Array MapEntry} (h : MapOk ρ σ es xs) : MapOk ρ (σ ++ τ) es xs :=
  ⟨h.1, fun i k v hi => let ⟨kx, vx, h1, h2, h3⟩ := h.2 i k v hi; ⟨kx, vx, den_pre _ _ _ _ _ h1, den_pre _ _ _ _ _ h2, h3⟩⟩
def holds (ρ : Nat → Int) (σ : List (Nat × Nat)) (w : World) (b c : Nat) : Blk → Prop
  | .cells _ n cs => ∃ cur t, w.heap[b]? = some (.cells cur t (0, 0)) ∧ cellsOk ρ σ cur n cs ∧ cur.size = n
  | .row t z n cs => ∃ cur, w.heap[b]? = some (.cells cur t (0, 0)) ∧ cellsOk ρ σ cur n cs ∧ cur.size = c * z ∧ c ≤ maxLen ∧ 0 < z
  | .gone => True
  | .map es => ∃ xs, w.heap[b]? = some (.map xs es.length) ∧ MapOk ρ σ es xs
  | .arr o n cols => ∃ cur t fr, w.heap[b]? = some (.cells cur t fr) ∧ ∀ i j kd a, i < (n.val ρ).toNat → cols[j]? = some (kd, a) → cur[(o.val ρ).toNat + i * cols.length + j]? = some (.int kd (kd.wrap (ρ (arrIdx a i))))
  | .fn k n f => ∃ cur t, w.heap[b]? = some (.cells cur t (0, 0)) ∧ ∀ i, i < (n.val ρ).toNat → cur[i]? = some (.int k (f.val ρ k i))
  | .iter m n seen => ∃ bm c, σ[m]? = some (bm, c) ∧ w.heap[b]? = some (.mapIter (some bm) n seen.toArray n)
def Blk.isCells : Blk → Bool
  | .cells _ _ _ => true
  | _ => false

theorem cellsOk_pre {ρ : Nat → Int} {σ τ : List (Nat × Nat)} {cur : Array Value} {n : Nat} {cs : PT V} (h : cellsOk ρ σ cur n cs) : cellsOk ρ (σ ++ τ) cur n cs :=
  ⟨h.1, fun i v hi hv => let ⟨x, h1, h2⟩ := h.2 i v hi hv; ⟨x, den_pre _ _ _ _ _ h1, h2⟩⟩
theorem holds_pre {ρ : Nat → Int} {σ τ : List (Nat × Nat)} {w : World} {b c : Nat} {k : Blk} (h : holds ρ σ w b c k) : holds ρ (σ ++ τ) w b c k := by
  cases k with
  | cells t n cs => obtain ⟨cur, t, h1, h2, h3⟩ := h; exact ⟨cur, t, h1, cellsOk_pre h2, h3⟩
  | row t z n cs => obtain ⟨cur, h1, h2, h3⟩ := h; exact ⟨cur, h1, cellsOk_pre h2, h3⟩
  | gone => trivial
  | map es => obtain ⟨xs, h1, h2⟩ := h; exact ⟨xs, h1, h2.pre⟩
  | arr o n cols => exact h
  | fn k n f => exact h
  | iter m n seen => obtain ⟨bm, c, h1, h2⟩ := h; exact ⟨bm, c, get_pre h1, h2⟩
theorem holds_at {ρ : Nat → Int} {σ : List (Nat × Nat)} {w w' : World} {b c : Nat} {k : Blk} (h : holds ρ σ w b c k) (e : k.live = true → w'.heap[b]? = w.heap[b]?) : holds ρ σ w' b c k := by
  cases k with
  | cells t n cs => obtain ⟨cur, t, h1, h2⟩ := h; exact ⟨cur, t, by rw [e rfl]; exact h1, h2⟩
  | row t z n cs => obtain ⟨cur, h1, h2⟩ := h; exact ⟨cur, by rw [e rfl]; exact h1, h2⟩
  | gone => trivial
  | map es => obtain ⟨xs, h1, h2⟩ := h; exact ⟨xs, by rw [e rfl]; exact h1, h2⟩
  | arr o n cols => obtain ⟨cur, t, fr, h1, h2⟩ := h; exact ⟨cur, t, fr, by rw [e rfl]; exact h1, h2⟩
  | fn k n f => obtain ⟨cur, t, h1, h2⟩ := h; exact ⟨cur, t, by rw [e rfl]; exact h1, h2⟩
  | iter m n seen => obtain ⟨bm, c, h1, h2⟩ := h; exact ⟨bm, c, h1, by rw [e rfl]; exact h2⟩
theorem holds_lt {ρ : Nat → Int} {σ : List (Nat × Nat)} {w : World} {b c : Nat} {k : Blk} (h : holds ρ σ w b c k) (hl : k.live = true) : b < w.heap.size := by
  cases k with
  | cells t n cs => obtain ⟨cur, t, h1, h2⟩ := h; exact (Array.getElem?_eq_some_iff.1 h1).1
  | row t z n cs => obtain ⟨cur, h1, h2⟩ := h; exact (Array.getElem?_eq_some_iff.1 h1).1
  | gone => cases hl
  | map es => obtain ⟨xs, h1, h2⟩ := h; exact (Array.getElem?_eq_some_iff.1 h1).1
  | arr o n cols => obtain ⟨cur, t, fr, h1, h2⟩ := h; exact (Array.getElem?_eq_some_iff.1 h1).1
  | fn k n f => obtain ⟨cur, t, h1, h2⟩ := h; exact (Array.getElem?_eq_some_iff.1 h1).1
  | iter m n seen => obtain ⟨bm, c, h1, h2⟩ := h; exact (Array.getElem?_eq_some_iff.1 h2).1

/-- memory is what its names say -/
structure RM (ρ : Nat → Int) (S : List Nat) (w0 : World) (σ : List (Nat × Nat)) (m : Mem) (w : World) : Prop where
  fr : Fr S w0 w
  len : σ.length = m.next
  blk : ∀ n k, m.blks.get n = some k → ∃ b c, σ[n]? = some (b, c) ∧ holds ρ σ w b c k
  own : ∀ n b c, m.lim ≤ n → σ[n]? = some (b, c) → w0.heap.size ≤ b ∨ b ∈ S
  inj : ∀ i j k l, m.blks.get i = some k → m.blks.get j = some l → i ≠ j → k.live = true → l.live = true → (k.ro && l.ro) = false → ∀ x y, σ[i]? = some x → σ[j]? = some y → x.1 ≠ y.1

theorem TM.get_set (t : TM) (k j : Nat) (x y : V) (h : (t.set k x).get j = some y) : (j = k ∧ y = x) ∨ (j ≠ k ∧ t.get j = some y) := PT.get_set t.t k j x y h
/-- a call that is put off -/
def defOf : Value → Option Deferred
  | .func fn fst cap => some { target := .fn fn cap, args := fst }
  | _ => none
def defsOf : List Value → Option (List Deferred)
  | [] => some []
  | x :: l => match defOf x with
    | some d => match defsOf l with
      | some ds => some (d :: ds)
      | none => none
    | none => none
/-- the calls that are put off are these -/
def DefR (ρ : Nat → Int) (σ : List (Nat × Nat)) (vs : List V) (ds : List Deferred) : Prop := ∃ xs, denL ρ σ vs = some xs ∧ defsOf xs = some ds
theorem DefR.pre {ρ : Nat → Int} {σ τ : List (Nat × Nat)} {vs : List V} {ds : List Deferred} (h : DefR ρ σ vs ds) : DefR ρ (σ ++ τ) vs ds :=
  let ⟨xs, h1, h2⟩ := h; ⟨xs, denL_pre _ _ _ _ _ h1, h2⟩
theorem DefR.nil {ρ : Nat → Int} {σ : List (Nat × Nat)} : DefR ρ σ [] [] := ⟨[], denL_nil, rfl⟩
theorem DefR.cons {ρ : Nat → Int} {σ : List (Nat × Nat)} {v : V} {vs : List V} {x : Value} {d : Deferred} {ds : List Deferred} (hv : den ρ σ v = some x) (hd : defOf x = some d) (h : DefR ρ σ vs ds) : DefR ρ σ (v :: vs) (d :: ds) := by
  obtain ⟨xs, h1, h2⟩ := h
  exact ⟨x :: xs, denL_cons hv h1, by simp only [defsOf, hd, h2]⟩

/-- the slots are what they say; the first names are the program's variables -/
structure RT (ρ : Nat → Int) (σ : List (Nat × Nat)) (ng : Nat) (n : Nat) (tm : TM) (a : Act) : Prop where
  size : a.tmps.size = n
  get : ∀ i v, tm.get i = some v → den ρ σ v = some (a.tmps.getD i undef)
  defers : DefR ρ σ tm.ds a.defers
  glob : ∀ i, i < ng → ∃ c, σ[i]? = some (i, c)

theorem RT.pre {ρ : Nat → Int} {σ τ : List (Nat × Nat)} {ng n : Nat} {tm : TM} {a : Act} (h : RT ρ σ ng n tm a) : RT ρ (σ ++ τ) ng n tm a :=
  ⟨h.size, fun i v hv => den_pre _ _ _ _ _ (h.get i v hv), h.defers.pre, fun i hi => let ⟨c, hc⟩ := h.glob i hi; ⟨c, get_pre hc⟩⟩

theorem getD_set (a : Array Value) (d i : Nat) (v u : Value) (h : d < a.size) : (a.setIfInBounds d v).getD i u = if i = d then v else a.getD i u := by
  simp only [Array.getD_eq_getD_getElem?, Array.getElem?_setIfInBounds]
  by_cases e : i = d
  · subst e; simp [h]
  · have : ¬ d = i := fun x => e x.symm
    simp [this, e]
theorem RT.put {ρ : Nat → Int} {σ : List (Nat × Nat)} {ng n : Nat} {tm : TM} {a : Act} (h : RT ρ σ ng n tm a) {dst : Option Tmp} {v : V} {x : Value} (hv : den ρ σ v = some x) : RT ρ σ ng n (put n tm dst v) (a.put dst x) := by
  cases dst with
  | none => exact h
  | some d =>
    cases hd : Nat.blt d n with
    | true =>
      have hlt : d < a.tmps.size := by rw [h.size]; simpa using hd
      have e : Sy.put n tm (some d) v = tm.set d v := by simp [Sy.put, hd]
      rw [e]
      refine ⟨by simpa [Act.put] using h.size, ?_, h.defers, h.glob⟩
      intro i u hu
      show _ = some ((a.tmps.setIfInBounds d x).getD i undef)
      rw [getD_set _ _ _ _ _ hlt]
      rcases TM.get_set _ _ _ _ _ hu with ⟨rfl, rfl⟩ | ⟨e, hu⟩
      · rw [if_pos rfl]; exact hv
      · rw [if_neg e]; exact h.get i u hu
    | false =>
      have hge : ¬ d < a.tmps.size := by rw [h.size]; intro hh; rw [show Nat.blt d n = true from by simpa using hh] at hd; cases hd
      have e : Sy.put n tm (some d) v = tm := by simp [Sy.put, hd]
      rw [e]
      refine ⟨by simpa [Act.put] using h.size, ?_, h.defers, h.glob⟩
      intro i u hu
      show _ = some ((a.tmps.setIfInBounds d x).getD i undef)
      unfold Array.setIfInBounds
      rw [dif_neg hge]
      exact h.get i u hu
end Go.Proofs.Ythndnammnnallaa.Sy
