/- Words that the walks of this seat share: slices of words, and what becomes of the world. -/
import Derived.WalkKit
import Derived.OwnWalk
import Derived.Deep.QuietTactic
import Derived.BigQuiet
import Derived.Deep.RegionWith
import Derived.Lib.Hide
import Derived.WalkSpells
import Derived.WalkSmall
import Derived.ArgAppend
import Derived.DeepKeys
namespace Go.Proofs.Ytihlbfbplmehiaa
open Go.RowKit

theorem ret_bool {a b : Bool} (h : a = b) : Ending.returned (.bool a) = .returned (.bool b) := by rw [h]
theorem ret_int {k : IntKind} {a b : Int} (h : a = b) : Ending.returned (.int k a) = .returned (.int k b) := by rw [h]

theorem addr_add (b o j : Nat) : Addr.add ⟨b, o, none⟩ j = ⟨b, o + j, none⟩ := by
  unfold Addr.add
  split
  · next h => subst h; rfl
  · rfl

theorem heap_alloc_get (w : World) (o : Obj) (i : Nat) : (w.alloc o).heap[i]? = if i = w.heap.size then some o else w.heap[i]? := by
  show (w.heap.push o)[i]? = _
  rw [Array.getElem?_push]

theorem hp_new {w : World} {o : Obj} {i : Nat} (h : i = w.heap.size) : (w.alloc o).heap[i]? = some o := by rw [heap_alloc_get, if_pos h]
theorem hp_old {w : World} {o : Obj} {i : Nat} {x : Option Obj} (h : i < w.heap.size) (k : w.heap[i]? = x) : (w.alloc o).heap[i]? = x := by rw [heap_alloc_get, if_neg (by omega)]; exact k
theorem hp_drew {w : World} {i : Nat} {x : Option Obj} (k : w.heap[i]? = x) : w.drew.heap[i]? = x := k

/-- a word's value -/
def uv (x : Int) : Value := .int .u32 x

/-- v reads as the words l -/
def Sl (w : World) (v : Value) (l : List Int) : Prop :=
  (v = .slice none 0 0 ∧ l = []) ∨ ∃ b off cap, v = .slice (some ⟨b, off, none⟩) l.length cap ∧ l.length ≤ cap ∧ cap ≤ 9223372036854775807 ∧ l.length ≤ 140737488355328 ∧ b < w.heap.size ∧
    (∀ i, i < l.length → w.cell? ⟨b, off + i, none⟩ = some (.int .u32 (l[i]?.getD 0))) ∧ ∀ x ∈ l, 0 ≤ x ∧ x < 4294967296

theorem Sl.nil (w : World) : Sl w (.slice none 0 0) [] := .inl ⟨rfl, rfl⟩

theorem Sl.below {w w' : World} {v : Value} {l : List Int} (h : Sl w v l) (hb : Below w.heap.size w w') : Sl w' v l := by
  rcases h with h | ⟨b, off, cap, hv, h1, h2, h2', h3, h4, h5⟩
  · exact .inl h
  · exact .inr ⟨b, off, cap, hv, h1, h2, h2', Nat.lt_of_lt_of_le h3 hb.size, fun i hi => (hb.cell (p := ⟨b, off + i, none⟩) h3).trans (h4 i hi), h5⟩

theorem Sl.bound {w : World} {v : Value} {l : List Int} (h : Sl w v l) : l.length ≤ 140737488355328 := by
  rcases h with ⟨_, rfl⟩ | ⟨b, off, cap, hv, h1, h2, h2', _⟩
  · simp
  · exact h2'

theorem Sl.range {w : World} {v : Value} {l : List Int} (h : Sl w v l) : ∀ x ∈ l, 0 ≤ x ∧ x < 4294967296 := by
  rcases h with ⟨_, rfl⟩ | ⟨b, off, cap, hv, h1, h2, h2', h3, h4, h5⟩
  · simp
  · exact h5

theorem Sl.drewN {w : World} {v : Value} {l : List Int} (h : Sl w v l) (n : Nat) : Sl (w.drewN n) v l := h.below (below_drewN (Below.refl _ _) n)

/-- the call's own slice of the words l -/
def Ow (base : Nat) (e : TypeId) (w : World) (v : Value) (l : List Int) : Prop := w.ownsRow base e 1 v l.length (l.map uv) ∧ l.length ≤ 140737488355328 ∧ ∀ x ∈ l, 0 ≤ x ∧ x < 4294967296

/-- what the call owns reads as words -/
theorem Ow.sl {w : World} {base : Nat} {e : TypeId} {v : Value} {l : List Int} (h : Ow base e w v l) : Sl w v l := by
  obtain ⟨⟨_, h⟩, hb, hr⟩ := h
  rcases h with ⟨rfl, hl⟩ | ⟨g, cap, cur, rfl, hg, hh, h1, h2, h3, h4⟩
  · exact .inl ⟨rfl, List.length_eq_zero_iff.1 hl⟩
  · refine .inr ⟨g, 0, cap, rfl, h1, by unfold maxLen at h2; exact h2, hb, ?_, ?_, hr⟩
    · rw [Array.getElem?_eq_some_iff] at hh; exact hh.1
    · intro i hi
      have : cur[i]? = (l.map uv)[i]? := by
        rw [← h4, List.getElem?_take, if_pos (by omega)]; simp
      simp only [World.cell?, hh, Nat.zero_add, Option.isSome_none, Bool.false_eq_true, if_false, this, List.getElem?_map]
      rw [List.getElem?_eq_getElem hi]; rfl

theorem Ow.of_block {w : World} {base : Nat} {e : TypeId} {l : List Int} {g : Nat} (hg : base ≤ g) (h : w.heap[g]? = some (.cells (l.map uv).toArray e)) (hb : l.length ≤ 140737488355328) (hr : ∀ x ∈ l, 0 ≤ x ∧ x < 4294967296) :
    Ow base e w (.slice (some ⟨g, 0, none⟩) l.length l.length) l :=
  ⟨⟨by simp, .inr ⟨g, l.length, _, rfl, hg, h, Nat.le_refl _, by unfold maxLen; omega, by simp, by rw [List.take_of_length_le (by simp)]⟩⟩, hb, hr⟩

theorem own_base {w : World} {base : Nat} {e : TypeId} {size : Nat} {v : Value} {n : Nat} {xs : List Value} (h : w.ownsRow base e size v n xs) : ∀ k, v.ownBlock = some k → base ≤ k := by
  intro k hk
  obtain ⟨_, h | ⟨g', cap2, cur, hv', hg', _⟩⟩ := h
  · rw [h.1] at hk; exact absurd hk (by simp [Value.ownBlock])
  · rw [hv'] at hk
    have : g' = k := by simpa [Value.ownBlock] using hk
    omega

theorem owns_below {w w' : World} {base : Nat} {e : TypeId} {size : Nat} {v : Value} {n : Nat} {xs : List Value} (h : w.ownsRow base e size v n xs) (hb : Below w.heap.size w w') : w'.ownsRow base e size v n xs := by
  obtain ⟨hl, h⟩ := h
  refine ⟨hl, ?_⟩
  rcases h with h | ⟨g, cap, cur, hv, hg, hh, r⟩
  · exact .inl h
  · exact .inr ⟨g, cap, cur, hv, hg, by rw [hb.block g (by rw [Array.getElem?_eq_some_iff] at hh; exact hh.1)]; exact hh, r⟩

theorem Ow.below {w w' : World} {base : Nat} {e : TypeId} {v : Value} {l : List Int} (h : Ow base e w v l) (hb : Below w.heap.size w w') : Ow base e w' v l := ⟨owns_below h.1 hb, h.2⟩
theorem Ow.nil (base : Nat) (e : TypeId) (w : World) : Ow base e w (.slice none 0 0) [] := ⟨⟨rfl, .inl ⟨rfl, rfl⟩⟩, by simp, by simp⟩

theorem nat_xor_ones (n : Nat) (h : n < 4294967296) : 4294967295 ^^^ n = 4294967295 - n := by
  have e : (4294967295 : Nat) = (BitVec.allOnes 32).toNat := by decide
  have hn : n = (BitVec.ofNat 32 n).toNat := by simp; omega
  have : (4294967295 ^^^ n : Nat) = (BitVec.allOnes 32 ^^^ BitVec.ofNat 32 n).toNat := by
    rw [BitVec.toNat_xor, ← e, ← hn]
  rw [this, BitVec.allOnes_xor, BitVec.toNat_not, ← hn]

theorem xor_ones (n : Int) (h1 : 0 ≤ n) (h2 : n < 4294967296) : bits .xor .u32 IntKind.u32.max n = 4294967295 - n := by
  have e : IntKind.u32.max = 4294967295 := by decide
  rw [e, u32_xor _ _ (by omega) (by omega) h1 h2]
  have := nat_xor_ones n.toNat (by omega)
  simp only [show (4294967295 : Int).toNat = 4294967295 from rfl]
  rw [this]
  omega

/-- '==' between two values of a flat type (integers and bools alone) -/
theorem eq_flat {P : Program} {m : Nat} {t : TypeId} {x y : Value} {lx ly : List Lit} {D D' : Nat} (hm : m ≤ 10000) (hk : P.keyTypeAt m t = true) (fx : x.formed P t = true) (fy : y.formed P t = true)
    (hx : P.keyLits D t x.cells.toList = some lx) (hy : P.keyLits D' t y.cells.toList = some ly) (q : Bool) (hq : q = true ↔ lx = ly) (w : World) : (Op.equalIn 10000 t x y).run P w = .ok q w := by
  have h := run_equalIn_deep (P := P) (10000 - m) m t hk
  rw [Nat.sub_add_cancel hm] at h
  obtain ⟨r, hr, hi⟩ := h w D D' x y lx ly fx fy hx hy
  rw [hr]
  have : r = q := by rw [Bool.eq_iff_iff, hi, hq]
  rw [this]
end Go.Proofs.Ytihlbfbplmehiaa
