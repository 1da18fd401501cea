/- Walks of the memory that a sector device has below it: fails, Sectors, Read, Write, Trim. -/
import Derived.Test.YthndnammnnallaaChecked
import Derived.Test.YthndnammnnallaaLift
import Derived.Test.YthndnammnnallaaMemB
import Derived.Test.YthndnammnnallaaTail
import Derived.IntWalk
namespace Go.Proofs.Ythndnammnnallaa
open Go.RowKit
set_option maxHeartbeats 4000000

/-- w' is w but for some blocks, and new ones -/
structure Ch (S : List Nat) (w w' : World) : Prop where
  os : w'.os = w.os
  tape : w'.tape = w.tape
  output : w'.output = w.output
  size : w.heap.size ≤ w'.heap.size
  other : ∀ k, k < w.heap.size → k ∉ S → w'.heap[k]? = w.heap[k]?
theorem Ch.refl (S : List Nat) (w : World) : Ch S w w := ⟨rfl, rfl, rfl, Nat.le_refl _, fun _ _ _ => rfl⟩
theorem Ch.trans {S : List Nat} {a b c : World} (h : Ch S a b) (k : Ch S b c) : Ch S a c := ⟨k.os.trans h.os, k.tape.trans h.tape, k.output.trans h.output, Nat.le_trans h.size k.size, fun i hi hs => (k.other i (Nat.lt_of_lt_of_le hi h.size) hs).trans (h.other i hi hs)⟩
theorem Ch.mono {S S' : List Nat} {a b : World} (h : Ch S a b) (hs : ∀ k ∈ S, k ∈ S') : Ch S' a b := ⟨h.os, h.tape, h.output, h.size, fun i hi h' => h.other i hi (fun h'' => h' (hs i h''))⟩
theorem Ch.of_below {S : List Nat} {a b : World} (h : Below a.heap.size a b) : Ch S a b := ⟨h.os, h.tape, h.output, h.size, fun i hi _ => h.block i hi⟩
theorem Ch.of_upd {S : List Nat} {a b : World} {g : Nat} {o : Obj} (h : Upd a b g o) (hg : g ∈ S) : Ch S a b := ⟨h.os, h.tape, h.output, Nat.le_of_eq h.size.symm, fun i _ hs => h.other i (fun e => hs (e ▸ hg))⟩
theorem Ch.drewN {S : List Nat} {a b : World} (h : Ch S a b) (n : Nat) : Ch S a (b.drewN n) := ⟨h.os, h.tape, h.output, h.size, h.other⟩
theorem Ch.at {S : List Nat} {a b : World} {g : Nat} {c : List Value} {t : TypeId} (h : Ch S a b) (hA : At a g c t) (hg : g ∉ S) : At b g c t := by
  unfold At at *
  rw [h.other g (Array.getElem?_eq_some_iff.1 hA).1 hg]
  exact hA
theorem Ch.below {S : List Nat} {a b : World} (h : Ch S a b) {B : Nat} (hB : B ≤ a.heap.size) (hs : ∀ k ∈ S, B ≤ k) : Below B a b := ⟨h.os, h.tape, h.output, h.size, fun k hk => h.other k (by omega) (fun e => by have := hs k e; omega)⟩
theorem at_ne {w : World} {g g' : Nat} {c c' : List Value} {t t' : TypeId} (h : At w g c t) (h' : At w g' c' t') (ht : t ≠ t') : g ≠ g' := by
  rintro rfl
  have := h.heap
  rw [h'.heap] at this
  cases this
  exact ht rfl

/-- a memory of so many sectors -/
def Mm (w : World) (gm gl n : Nat) : Prop := ∃ lf : Int, At w gm [.slice (some ⟨gl, 0, none⟩) n n, .int .i64 0, .int .i64 lf] 28

set_option maxRecDepth 100000 in
theorem fails_any {gm gl n : Nat} (w : World) (h : Mm w gm gl n) : Calls Try.prog 40 #[.pointer (some ⟨gm, 0, none⟩)] w fun e w' => e = .returned (.bool false) ∧ Mm w' gm gl n ∧ Same gm w w' := by
  obtain ⟨lf, hA⟩ := h
  have Hi1 : Hid ((Try.prog.info? 3).map (·.size) = some 1) := by unfold Hid; kernel_rfl
  have c1 : w.cell? ⟨gm, 1, none⟩ = some (.int .i64 0) := hA.cell 1
  have c2 : w.cell? ⟨gm, 2, none⟩ = some (.int .i64 lf) := hA.cell 2
  have HA := Lib.hid hA
  clear hA
  go_enter Try.func40, Try.ntmps40
  go_wp2_with (first
    | (refine st_cell rfl rfl rfl rfl rfl HA.out Hi1.out (Nat.le_refl 3) rfl ?_; intro w2 hu2; have HU := Lib.hid hu2; clear hu2)
    | fail)

  go_ret
  exact ⟨rfl, ⟨_, HU.out.to⟩, HU.out.same⟩
set_option maxRecDepth 100000 in
theorem sectors_any {gm gl n : Nat} (w : World) (h : Mm w gm gl n) : Calls Try.prog 37 #[.pointer (some ⟨gm, 0, none⟩)] w fun e w' => e = .returned (.int .i64 n) ∧ w = w' := by
  obtain ⟨lf, hA⟩ := h
  have c0 : w.cell? ⟨gm, 0, none⟩ = some (.slice (some ⟨gl, 0, none⟩) n n) := hA.cell 0
  clear hA
  go_enter Try.func37, Try.ntmps37
  go_wp2_with fail
  go_ret
  exact ⟨rfl, rfl⟩
end Go.Proofs.Ythndnammnnallaa
