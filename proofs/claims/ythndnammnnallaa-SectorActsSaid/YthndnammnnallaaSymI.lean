/- The evaluator over memory known by name: memory that is made, and written. -/
import Derived.Test.YthndnammnnallaaSymH
namespace Go.Proofs.Ythndnammnnallaa.Sy
open Go.RowKit

/-- w' is w with one block more -/
structure Ext1 (w w' : World) : Prop where
  os : w'.os = w.os
  tape : w'.tape = w.tape
  output : w'.output = w.output
  size : w'.heap.size = w.heap.size + 1
  old : ∀ i, i < w.heap.size → w'.heap[i]? = w.heap[i]?
theorem Ext1.alloc (w : World) (o : Obj) : Ext1 w (w.alloc o) := ⟨rfl, rfl, rfl, by simp, fun i hi => hp_old hi rfl⟩
theorem Ext1.drew_alloc (w : World) (o : Obj) : Ext1 w (w.drew.alloc o) := ⟨rfl, rfl, rfl, by simp, fun i hi => hp_old (w := w.drew) hi rfl⟩
/-- w' is w but for block b -/
structure Upd1 (b : Nat) (w w' : World) : Prop where
  os : w'.os = w.os
  tape : w'.tape = w.tape
  output : w'.output = w.output
  size : w'.heap.size = w.heap.size
  other : ∀ i, i ≠ b → w'.heap[i]? = w.heap[i]?

theorem Fr.refl (S : List Nat) (w : World) : Fr S w w := ⟨rfl, rfl, rfl, Nat.le_refl _, fun _ _ _ => rfl⟩
theorem Fr.ext {S : List Nat} {w0 w w' : World} (h : Fr S w0 w) (e : Ext1 w w') : Fr S w0 w' :=
  ⟨e.os.trans h.os, e.tape.trans h.tape, e.output.trans h.output, by have := h.size; have := e.size; omega, fun k hk hs => (e.old k (Nat.lt_of_lt_of_le hk h.size)).trans (h.block k hk hs)⟩
theorem Fr.upd {S : List Nat} {w0 w w' : World} {b : Nat} (h : Fr S w0 w) (e : Upd1 b w w') (hb : w0.heap.size ≤ b ∨ b ∈ S) : Fr S w0 w' :=
  ⟨e.os.trans h.os, e.tape.trans h.tape, e.output.trans h.output, by have := h.size; have := e.size; omega, fun k hk hs => (e.other k (fun x => by subst x; rcases hb with hb | hb; omega; exact hs hb)).trans (h.block k hk hs)⟩
theorem Fr.drew {S : List Nat} {w0 w : World} (h : Fr S w0 w) : Fr S w0 w.drew := ⟨h.os, h.tape, h.output, h.size, h.block⟩

section
variable {S : List Nat} {w0 w w' : World} {ρ : Nat → Int} {σ : List (Nat × Nat)} {m : Mem}

theorem get_last {α : Type} (σ : List α) (x : α) : (σ ++ [x])[σ.length]? = some x := by simp
theorem get_snoc {α : Type} {σ : List α} {x y : α} {i : Nat} (h : (σ ++ [x])[i]? = some y) : σ[i]? = some y ∨ (i = σ.length ∧ y = x) := by
  rcases Nat.lt_trichotomy i σ.length with h1 | h1 | h1
  · rw [List.getElem?_append_left h1] at h; exact .inl h
  · subst h1; rw [get_last] at h; exact .inr ⟨rfl, (Option.some.inj h).symm⟩
  · rw [List.getElem?_eq_none (by simp; omega)] at h; cases h
theorem name_lt (hM : RM ρ S w0 σ m w) {n : Nat} {k : Blk} (h : m.blks.get n = some k) : n < m.next := by
  obtain ⟨b, c, hs, _⟩ := hM.blk n k h
  rw [← hM.len]
  rcases Nat.lt_or_ge n σ.length with h1 | h1
  · exact h1
  · rw [List.getElem?_eq_none h1] at hs; cases hs

/-- a new block -/
theorem RM.new_blk (hM : RM ρ S w0 σ m w) (he : Ext1 w w') {c : Nat} {k : Blk} (hk : holds ρ (σ ++ [(w.heap.size, c)]) w' w.heap.size c k) : RM ρ S w0 (σ ++ [(w.heap.size, c)]) (m.new k).2 w' := by
  have hold : ∀ j l, m.blks.get j = some l → ∀ x, σ[j]? = some x → l.live = true → x.1 < w.heap.size := by
    intro j l hj x hx hl
    obtain ⟨b, c', hs, hh⟩ := hM.blk j l hj
    rw [hx] at hs; cases hs
    exact holds_lt hh hl
  refine ⟨hM.fr.ext he, by simp [Mem.new, hM.len], ?_, ?_, ?_⟩
  · intro n l hn
    rcases PT.get_set _ _ _ _ _ hn with ⟨rfl, rfl⟩ | ⟨_, hn⟩
    · exact ⟨w.heap.size, c, by rw [← hM.len]; exact get_last _ _, hk⟩
    · obtain ⟨b, c', hs, hh⟩ := hM.blk n l hn
      exact ⟨b, c', get_pre hs, holds_at (holds_pre hh) (fun hl => he.old b (holds_lt hh hl))⟩
  · intro n b c' hlim hs
    rcases get_snoc hs with hs | ⟨e, e2⟩
    · exact hM.own n b c' hlim hs
    · cases e2; exact .inl hM.fr.size
  · intro i j k' l hi hj hne hk' hl hro x y hx hy
    rcases PT.get_set _ _ _ _ _ hi with ⟨rfl, rfl⟩ | ⟨hni, hi'⟩ <;> rcases PT.get_set _ _ _ _ _ hj with ⟨rfl, rfl⟩ | ⟨hnj, hj'⟩
    · exact absurd rfl hne
    · rw [← hM.len, get_last] at hx; cases hx
      rcases get_snoc hy with hy | ⟨e, _⟩
      · exact Ne.symm (Nat.ne_of_lt (hold j l hj' y hy hl))
      · rw [hM.len] at e; exact absurd e hnj
    · rw [← hM.len, get_last] at hy; cases hy
      rcases get_snoc hx with hx | ⟨e, _⟩
      · exact Nat.ne_of_lt (hold i k' hi' x hx hk')
      · rw [hM.len] at e; exact absurd e hni
    · rcases get_snoc hx with hx | ⟨e, _⟩
      · rcases get_snoc hy with hy | ⟨e, _⟩
        · exact hM.inj i j k' l hi' hj' hne hk' hl hro x y hx hy
        · rw [hM.len] at e; exact absurd e hnj
      · rw [hM.len] at e; exact absurd e hni

/-- a block that is written -/
theorem RM.upd_blkW (hM : RM ρ S w0 σ m w) {n b c : Nat} {k k' : Blk} (hn : m.blks.get n = some k) (hs : σ[n]? = some (b, c)) (hl : k.live = true) (hro : k.ro = false) (hown : w0.heap.size ≤ b ∨ b ∈ S) (hu : Upd1 b w w') (hk : holds ρ σ w' b c k') :
    RM ρ S w0 σ { m with blks := m.blks.set n k' } w' := by
  refine ⟨hM.fr.upd hu hown, hM.len, ?_, hM.own, ?_⟩
  · intro j l hj
    rcases PT.get_set _ _ _ _ _ hj with ⟨rfl, rfl⟩ | ⟨hne, hj⟩
    · exact ⟨b, c, hs, hk⟩
    · obtain ⟨b', c', hs', hh⟩ := hM.blk j l hj
      exact ⟨b', c', hs', holds_at hh (fun hl' => hu.other b' (fun e => hM.inj j n l k hj hn hne hl' hl (by rw [hro, Bool.and_false]) _ _ hs' hs e))⟩
  · intro i j k1 l hi hj hne hk1 hl1 hro1 x y hx hy
    rcases PT.get_set _ _ _ _ _ hi with ⟨rfl, rfl⟩ | ⟨hni, hi'⟩ <;> rcases PT.get_set _ _ _ _ _ hj with ⟨rfl, rfl⟩ | ⟨hnj, hj'⟩
    · exact absurd rfl hne
    · exact hM.inj i j k l hn hj' hne hl hl1 (by rw [hro, Bool.false_and]) x y hx hy
    · exact hM.inj i j k1 k hi' hn hne hk1 hl (by rw [hro, Bool.and_false]) x y hx hy
    · exact hM.inj i j k1 l hi' hj' hne hk1 hl1 hro1 x y hx hy

theorem RM.upd_blk (hM : RM ρ S w0 σ m w) {n b c : Nat} {k k' : Blk} (hn : m.blks.get n = some k) (hs : σ[n]? = some (b, c)) (hl : k.live = true) (hro : k.ro = false) (hlim : m.lim ≤ n) (hu : Upd1 b w w') (hk : holds ρ σ w' b c k') :
    RM ρ S w0 σ { m with blks := m.blks.set n k' } w' := hM.upd_blkW hn hs hl hro (hM.own n b c hlim hs) hu hk

/-- a name that is forgotten -/
theorem RM.forget (hM : RM ρ S w0 σ m w) {n b c : Nat} (hs : σ[n]? = some (b, c)) : RM ρ S w0 σ { m with blks := m.blks.set n .gone } w := by
  refine ⟨hM.fr, hM.len, ?_, hM.own, ?_⟩
  · intro j l hj
    rcases PT.get_set _ _ _ _ _ hj with ⟨rfl, rfl⟩ | ⟨hne, hj⟩
    · exact ⟨b, c, hs, trivial⟩
    · exact hM.blk j l hj
  · intro i j k1 l hi hj hne hk1 hl1 hro1 x y hx hy
    rcases PT.get_set _ _ _ _ _ hi with ⟨rfl, rfl⟩ | ⟨hni, hi⟩
    · cases hk1
    · rcases PT.get_set _ _ _ _ _ hj with ⟨rfl, rfl⟩ | ⟨hnj, hj⟩
      · cases hl1
      · exact hM.inj i j k1 l hi hj hne hk1 hl1 hro1 x y hx hy

/-- a row's block that is written, and has a new name -/
theorem RM.renew (hM : RM ρ S w0 σ m w) {n b c : Nat} {k k' : Blk} (hn : m.blks.get n = some k) (hs : σ[n]? = some (b, c)) (hl : k.live = true) (hro : k.ro = false) (hlim : m.lim ≤ n) (hu : Upd1 b w w') (hk : holds ρ (σ ++ [(b, c)]) w' b c k') :
    RM ρ S w0 (σ ++ [(b, c)]) { blks := (m.blks.set m.next k').set n .gone, next := m.next + 1, lim := m.lim } w' := by
  have hown := hM.own n b c hlim hs
  have hnn := name_lt hM hn
  have get2 : ∀ {j l}, ((m.blks.set m.next k').set n .gone).get j = some l → (j = n ∧ l = .gone) ∨ (j ≠ n ∧ j = m.next ∧ l = k') ∨ (j ≠ n ∧ j ≠ m.next ∧ m.blks.get j = some l) := by
    intro j l hj
    rcases PT.get_set _ _ _ _ _ hj with ⟨e, e2⟩ | ⟨e, hj⟩
    · exact .inl ⟨e, e2⟩
    · rcases PT.get_set _ _ _ _ _ hj with ⟨e1, e2⟩ | ⟨e1, hj⟩
      · exact .inr (.inl ⟨e, e1, e2⟩)
      · exact .inr (.inr ⟨e, e1, hj⟩)
  have back : ∀ {j x}, j ≠ m.next → (σ ++ [(b, c)])[j]? = some x → σ[j]? = some x := by
    intro j x hne hx
    rcases get_snoc hx with h | ⟨e, _⟩
    · exact h
    · rw [hM.len] at e; exact absurd e hne
  refine ⟨hM.fr.upd hu hown, by simp [hM.len], ?_, ?_, ?_⟩
  · intro j l hj
    rcases get2 hj with ⟨rfl, rfl⟩ | ⟨_, rfl, rfl⟩ | ⟨hne, hnx, hj⟩
    · exact ⟨b, c, get_pre hs, trivial⟩
    · exact ⟨b, c, by rw [← hM.len]; exact get_last _ _, hk⟩
    · obtain ⟨b', c', hs', hh⟩ := hM.blk j l hj
      exact ⟨b', c', get_pre hs', holds_at (holds_pre hh) (fun hl' => hu.other b' (fun e => hM.inj j n l k hj hn hne hl' hl (by rw [hro, Bool.and_false]) _ _ hs' hs e))⟩
  · intro j b' c' hlj hs'
    rcases get_snoc hs' with hs' | ⟨_, e2⟩
    · exact hM.own j b' c' hlj hs'
    · cases e2; exact hown
  · intro i j k1 l hi hj hne hk1 hl1 hro1 x y hx hy
    rcases get2 hi with ⟨rfl, rfl⟩ | ⟨_, rfl, rfl⟩ | ⟨hni, hnxi, hi'⟩
    · cases hk1
    · rcases get2 hj with ⟨rfl, rfl⟩ | ⟨_, rfl, rfl⟩ | ⟨hnj, hnxj, hj'⟩
      · cases hl1
      · exact absurd rfl hne
      · rw [← hM.len, get_last] at hx; cases hx
        exact fun e => hM.inj j n l k hj' hn hnj hl1 hl (by rw [hro, Bool.and_false]) _ _ (back hnxj hy) hs e.symm
    · rcases get2 hj with ⟨rfl, rfl⟩ | ⟨_, rfl, rfl⟩ | ⟨hnj, hnxj, hj'⟩
      · cases hl1
      · rw [← hM.len, get_last] at hy; cases hy
        exact hM.inj i n k1 k hi' hn hni hk1 hl (by rw [hro, Bool.and_false]) _ _ (back hnxi hx) hs
      · exact hM.inj i j k1 l hi' hj' hne hk1 hl1 hro1 x y (back hnxi hx) (back hnxj hy)
end
end Go.Proofs.Ythndnammnnallaa.Sy
