/- The sort of places in memory. -/
import Derived.Test.YtihlbfbplmehiaaLatF
namespace Go.Proofs.Ytihlbfbplmehiaa
open Go.RowKit Go.Shelf
set_option maxHeartbeats 4000000

theorem pl_len' (x : Pl) : x.cells.length = 9 := rfl
theorem plsCells_len (l : List Pl) : (plsCells l).length = 9 * l.length := by
  unfold plsCells
  induction l with
  | nil => rfl
  | cons x l ih => rw [List.flatMap_cons, List.length_append, ih, pl_len', List.length_cons]; omega
theorem plsCells_at {l : List Pl} {i : Nat} {x : Pl} (h : l[i]? = some x) : ((plsCells l).drop (9 * i)).take 9 = x.cells := by
  unfold plsCells
  induction l generalizing i with
  | nil => cases h
  | cons y l ih =>
    cases i with
    | zero =>
      simp only [List.getElem?_cons_zero, Option.some.injEq] at h
      subst h
      rw [List.flatMap_cons, Nat.mul_zero, List.drop_zero, ← pl_len' y, List.take_left]
    | succ i =>
      rw [List.flatMap_cons, show 9 * (i + 1) = y.cells.length + 9 * i by rw [pl_len']; omega, List.drop_length_add_append]
      exact ih (by simpa using h)
theorem plsCells_get {l : List Pl} {i c : Nat} {x : Pl} (h : l[i]? = some x) (hc : c < 9) : (plsCells l)[9 * i + c]? = x.cells[c]? := by
  rw [← plsCells_at h, List.getElem?_take, if_pos hc, List.getElem?_drop]

/-- less, by compare -/
def ltP : Pl → Pl → Bool := ltOf cfP
theorem cmpI_zero {a b : Int} : cmpI a b = 0 ↔ a = b := by unfold cmpI; split <;> (try split) <;> omega
theorem cmpI_neg {a b : Int} : cmpI a b < 0 ↔ a < b := by unfold cmpI; split <;> (try split) <;> omega
theorem ltP_iff (x y : Pl) : ltP x y = true ↔ x.p.s < y.p.s ∨ x.p.s = y.p.s ∧ (y.p.q < x.p.q ∨ y.p.q = x.p.q ∧ (x.b < y.b ∨ x.b = y.b ∧ x.k < y.k)) := by
  unfold ltP ltOf
  rw [decide_eq_true_eq]
  unfold cfP
  simp only [orI]
  have e1 := @cmpI_zero x.p.s y.p.s; have e2 := @cmpI_zero y.p.q x.p.q; have e3 := @cmpI_zero (x.b : Int) y.b; have e4 := @cmpI_zero (x.k : Int) y.k
  have n1 := @cmpI_neg x.p.s y.p.s; have n2 := @cmpI_neg y.p.q x.p.q; have n3 := @cmpI_neg (x.b : Int) y.b; have n4 := @cmpI_neg (x.k : Int) y.k
  split
  · split
    · split
      · split <;> omega
      · omega
    · omega
  · omega
theorem ltP_false (x y : Pl) : ltP x y = false ↔ ¬ (x.p.s < y.p.s ∨ x.p.s = y.p.s ∧ (y.p.q < x.p.q ∨ y.p.q = x.p.q ∧ (x.b < y.b ∨ x.b = y.b ∧ x.k < y.k))) := by
  rw [← ltP_iff]; simp
theorem swoP : Sort.SWO (ltOf cfP) where
  irrefl x := by show ltP x x = false; rw [ltP_false]; omega
  trans x y z h1 h2 := by
    have h1 := (ltP_iff x y).1 h1; have h2 := (ltP_iff y z).1 h2
    exact (ltP_iff x z).2 (by omega)
  ntrans x y z h1 h2 := by
    have h1 := (ltP_false x y).1 h1; have h2 := (ltP_false y z).1 h2
    exact (ltP_false x z).2 (by omega)
/-- no later one is less than an earlier one -/
def SrtP (l : List Pl) : Prop := ∀ (i j : Nat) (x y : Pl), i < j → l[i]? = some x → l[j]? = some y → ltP y x = false

theorem cmp_lays (blk off size : Nat) (w : World) : CmpLays Try.prog 23 #[] Pl.cells 9 cfP blk off size w := fun _ _ _ _ x y => compare_any x y _

theorem sort_at {w : World} {g n : Nat} {cur : List Value} {d' : Array Pl} {os : Array Obj} {t : TypeId} (hA : At w g cur t) (d : Array Pl) (hH : Sort.HoldsK Pl.cells 9 w g 0 d) (hs : d'.size = d.size) (hn : 9 * d.size ≤ cur.length) :
    ∃ cur', At (sortWorldK Pl.cells 9 w g 0 n d' os) g cur' t ∧ cur'.length = cur.length ∧ cur'.take (d.size * 9) = plsCells d'.toList := by
  have hlt := hA.lt
  have hH' := holdsK_sortWorldK_c Pl.cells 9 w g 0 d d' n os hH hlt hs
  have hsz : g < (Sort.putRowK Pl.cells 9 (Sort.ahead w n) g 0 d').heap.size := by
    show g < (w.heap.modify g _).size
    rw [Array.size_modify]; exact hlt
  have hheap : (sortWorldK Pl.cells 9 w g 0 n d' os).heap[g]? = some (.cells (Sort.putCells id 0 (Sort.flatK Pl.cells 9 d') cur.toArray) t (0, 0)) := by
    unfold sortWorldK
    rw [Sort.heap_grow_old _ _ hsz]
    show (w.heap.modify g _)[g]? = _
    rw [Array.getElem?_modify, if_pos rfl, hA.heap]
    rfl
  refine ⟨(Sort.putCells id 0 (Sort.flatK Pl.cells 9 d') cur.toArray).toList, by unfold At; simpa using hheap, by simp [Sort.putCells], ?_⟩
  have hA' : At (sortWorldK Pl.cells 9 w g 0 n d' os) g (Sort.putCells id 0 (Sort.flatK Pl.cells 9 d') cur.toArray).toList t := by unfold At; simpa using hheap
  apply List.ext_getElem?
  intro j
  rw [List.getElem?_take]
  have hl := plsCells_len d'.toList
  by_cases hj : j < d.size * 9
  · rw [if_pos hj, ← hA'.cell]
    have hi : j / 9 < d'.size := by rw [hs]; omega
    have hc : j % 9 < 9 := Nat.mod_lt _ (by decide)
    have h1 := (Sort.HoldsK.cell hH' hi hc).1
    rw [Nat.zero_add, show j / 9 * 9 + j % 9 = j by omega] at h1
    rw [h1]
    have h2 := plsCells_get (l := d'.toList) (i := j / 9) (x := d'[j / 9]!) (by rw [Array.getElem?_toList, getElem!_pos d' _ hi]; exact Array.getElem?_eq_getElem hi) hc
    rw [show 9 * (j / 9) + j % 9 = j by omega] at h2
    rw [h2]
    rw [getElem!_pos (d'[j / 9]!).cells _ (by rw [pl_len']; exact hc)]
    exact (List.getElem?_eq_getElem (by rw [pl_len']; exact hc)).symm
  · rw [if_neg hj, List.getElem?_eq_none (by rw [hl]; simp; omega)]
theorem sort_other {w : World} {g n : Nat} {d' : Array Pl} {os : Array Obj} {B : Nat} (hB : B ≤ g) (hBs : B ≤ w.heap.size) : Below B w (sortWorldK Pl.cells 9 w g 0 n d' os) := by
  refine ⟨rfl, rfl, rfl, size_sortWorldK_c Pl.cells 9 w g 0 n d' os, fun k hk => ?_⟩
  have hsz : k < (Sort.putRowK Pl.cells 9 (Sort.ahead w n) g 0 d').heap.size := by
    show k < (w.heap.modify g _).size
    rw [Array.size_modify]; omega
  unfold sortWorldK
  rw [Sort.heap_grow_old _ _ hsz]
  show (w.heap.modify g _)[k]? = _
  rw [Array.getElem?_modify, if_neg (by omega)]
theorem holds_own {w : World} {g : Nat} {cur : List Value} {t : TypeId} {l : List Pl} (hA : At w g cur t) (hx : cur.take (l.length * 9) = plsCells l) : Sort.HoldsK Pl.cells 9 w g 0 l.toArray := by
  intro j hj
  rw [Sort.size_flatK] at hj
  have hj : j < l.length * 9 := by simpa using hj
  rw [Nat.zero_add, hA.cell, hA.frozen]
  refine ⟨?_, rfl⟩
  rw [Sort.get_flatK _ _ _ _ (by simpa using hj)]
  have hc : j % 9 < 9 := Nat.mod_lt _ (by decide)
  have hi : j / 9 < l.length := by omega
  have h1 : cur[j]? = (plsCells l)[j]? := by rw [← hx, List.getElem?_take, if_pos hj]
  have h2 := plsCells_get (l := l) (i := j / 9) (x := l[j / 9]) (List.getElem?_eq_getElem hi) hc
  rw [show 9 * (j / 9) + j % 9 = j by omega] at h2
  rw [h1, h2]
  have h3 : l.toArray[j / 9]! = l[j / 9] := by rw [getElem!_pos _ _ (by simpa using hi)]; simp
  rw [h3, List.getElem?_eq_getElem (by rw [pl_len']; exact hc)]
  show some _ = some (id _)
  rw [getElem!_pos _ _ (by rw [pl_len']; exact hc)]; rfl

set_option maxRecDepth 100000 in
theorem sort_own {base : Nat} {v : Value} {l : List Pl} (hl : l.length ≤ 100000) (w : World) (hB : base ≤ w.heap.size) (h : w.ownsRow base 29 9 v l.length (plsCells l)) :
    Calls Try.prog 33 #[v, .func (.func 23) #[] #[]] w fun e w' => e = .returned (.tuple #[]) ∧ ∃ l', l'.Perm l ∧ SrtP l' ∧ w'.ownsRow base 29 9 v l.length (plsCells l') ∧ Below base w w' := by
  rcases h.2 with ⟨rfl, h0⟩ | ⟨g, cap, cur, rfl, hg, hh, hn, hm, hcs, hx⟩
  · have hl0 : l = [] := List.length_eq_zero_iff.1 h0
    subst hl0
    have hcon := AnyF.slices_SortFunc_none Try.sortP none 0 (.func (.func 23) #[] #[]) w
    change Calls Try.prog 33 _ _ _ at hcon
    refine hcon.mono ?_
    rintro e w' ⟨rfl, rfl⟩
    exact ⟨rfl, [], List.Perm.refl _, (fun i j x y _ hx => by cases hx), h, Below.refl _ _⟩
  · have hA : At w g cur.toList 29 := by unfold At; simpa using hh
    have hH := holds_own hA hx
    have eg : ∀ args w, (callFunc 23 args).run Try.prog w = .ok (.enter 23 args) w := enters_of Try.func23 (by kernel_rfl) rfl
    have hcon := AnyQ.slices_SortFunc Try.sortP 9 Try.isAgg29 Try.sizeOf29 Pl.cells (fun _ => rfl) (fun x v hv => pl_one x v hv) cfP swoP 23 #[] g 0 cap l.toArray w eg (cmp_lays g 0 _ w) hH hA.lt (by simp; omega)
    change Calls Try.prog 33 _ _ _ at hcon
    rw [List.size_toArray] at hcon
    refine hcon.mono ?_
    rintro e w' ⟨rfl, d', n, os, ⟨hp1, _, hp3⟩, hs, rfl⟩
    have hsz : d'.size = l.length := by rw [hp1]; simp
    obtain ⟨cur', hA', hl', ht'⟩ := sort_at (n := n) (os := os) hA l.toArray hH (by rw [hp1]) (by simp only [List.size_toArray, Array.length_toList]; rw [hcs]; omega)
    refine ⟨rfl, d'.toList, ?_, ?_, ⟨by rw [plsCells_len]; simp [hsz]; omega, .inr ⟨g, cap, cur'.toArray, rfl, hg, hA'.heap, hn, hm, by rw [List.size_toArray, hl', Array.length_toList]; exact hcs, by simpa using ht'⟩⟩, sort_other hg hB⟩
    · have e1 : d'.extract 0 l.length = d' := by rw [← hsz]; simp
      have e2 : l.toArray.extract 0 l.length = l.toArray := by simp
      rw [e1, e2] at hp3
      simpa using hp3
    · intro i j x y hij hxi hyj
      have hj : j < d'.size := by have := (List.getElem?_eq_some_iff.1 hyj).1; simpa using this
      have h1 := hs i j (Nat.zero_le _) hij (by rw [← hsz]; exact hj)
      rw [Array.getElem?_toList] at hxi hyj
      rw [getElem!_pos d' j hj, getElem!_pos d' i (by omega)] at h1
      rw [Array.getElem?_eq_getElem (by omega)] at hxi
      rw [Array.getElem?_eq_getElem hj] at hyj
      cases hxi; cases hyj
      exact h1
end Go.Proofs.Ytihlbfbplmehiaa
