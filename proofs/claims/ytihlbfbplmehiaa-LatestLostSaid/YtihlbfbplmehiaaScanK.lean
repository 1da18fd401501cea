/- Walks of the reference of scan: Counts, Same; blocks are compared cell by cell. -/
import Derived.Test.YtihlbfbplmehiaaBlk
import Derived.Test.YtihlbfbplmehiaaFlat
namespace Go.Proofs.Ytihlbfbplmehiaa
open Go.RowKit Go.Shelf
set_option maxHeartbeats 4000000

def pgKinds : List (Option IntKind) := [some .u32, some .u32, none, some .u32, some .u32, some .u32, some .u32]
def bkKinds : List (Option IntKind) := [some .i64, some .u32] ++ List.replicate 8 (some .i64) ++ (List.replicate 8 pgKinds).flatten
theorem Pg.fit {p : Pg} (h : p.ok) : Fit pgKinds p.cells := by
  obtain ⟨h0, h1, h2, h3, h4, h5⟩ := h
  have e : IntKind.u32.max = 4294967295 := rfl
  have e' : IntKind.u32.min = 0 := rfl
  have f : ∀ x : Int, u32 x → FitC (some .u32) (.int .u32 x) := fun x h => ⟨rfl, by rw [e']; exact h.1, by rw [e]; have := h.2; omega⟩
  exact ⟨f _ h0, f _ h1, trivial, f _ h2, f _ h3, f _ h4, f _ h5, trivial⟩
theorem fit_ints : ∀ (l : List Int), (∀ x ∈ l, -9223372036854775808 ≤ x ∧ x ≤ 9223372036854775807) → Fit (List.replicate l.length (some .i64)) (l.map (.int .i64))
  | [], _ => trivial
  | x :: l, h => ⟨⟨rfl, (h x List.mem_cons_self).1, (h x List.mem_cons_self).2⟩, fit_ints l fun y hy => h y (List.mem_cons_of_mem _ hy)⟩
theorem fit_pgs : ∀ (l : List Pg), (∀ p ∈ l, p.ok) → Fit (List.replicate l.length pgKinds).flatten (l.flatMap Pg.cells)
  | [], _ => trivial
  | p :: l, h => by
    rw [List.length_cons, List.replicate_succ, List.flatten_cons, List.flatMap_cons]
    exact fit_join (Pg.fit (h p List.mem_cons_self)) (fit_pgs l fun q hq => h q (List.mem_cons_of_mem _ hq))
theorem Bk.fit {b : Bk} (h : b.ok) : Fit bkKinds b.cells := by
  unfold bkKinds Bk.cells bkCells
  have h1 := fit_ints b.ks h.kr
  have h2 := fit_pgs b.ps h.pr
  rw [h.ks] at h1
  rw [h.ps] at h2
  exact fit_join (fit_join ⟨⟨rfl, h.h.1, h.h.2⟩, ⟨rfl, h.c.1, by have := h.c.2; show b.c ≤ 4294967295; omega⟩, trivial⟩ h1) h2
theorem Pg.cells_eq {p q : Pg} (h : p.cells = q.cells) : p = q := by
  cases p; cases q; simp [Pg.cells] at h; simp [h]
theorem pgs_eq : ∀ {l l' : List Pg}, l.flatMap Pg.cells = l'.flatMap Pg.cells → l = l'
  | [], [], _ => rfl
  | [], p :: _, h => by simp [List.flatMap_cons, Pg.cells] at h
  | p :: _, [], h => by simp [List.flatMap_cons, Pg.cells] at h
  | p :: l, q :: l', h => by
    rw [List.flatMap_cons, List.flatMap_cons] at h
    obtain ⟨h1, h2⟩ := List.append_inj h rfl
    rw [Pg.cells_eq h1, pgs_eq h2]
theorem Bk.cells_eq {b b' : Bk} (hk : b.ok) (hk' : b'.ok) (h : b.cells = b'.cells) : b = b' := by
  obtain ⟨bh, bc, ks, ps⟩ := b
  obtain ⟨bh', bc', ks', ps'⟩ := b'
  unfold Bk.cells bkCells at h
  obtain ⟨h1, h2⟩ := List.append_inj h (by simp [hk.ks, hk'.ks])
  obtain ⟨h3, h4⟩ := List.append_inj h1 (by simp)
  simp only [List.cons.injEq, Value.int.injEq, true_and, and_true] at h3
  have h5 : ks = ks' := (List.map_inj_right (by intro x y e; simpa using e)).1 h4
  obtain ⟨rfl, rfl⟩ := h3
  subst h5
  have h6 : ps = ps' := pgs_eq h2
  subst h6; rfl

theorem bk_neq_ref (b b' : Bk) (h : b.ok) (h' : b'.ok) (w : World) : (binOp .neq 48 (.agg b.cells.toArray) (.agg b'.cells.toArray)).run Try.prog w = .ok (.bool (!decide (b = b'))) w :=
  flat_binop_neq (m := 6) (D := 6) (by omega) (by kernel_rfl) (ks := bkKinds) (by kernel_rfl) (by kernel_rfl) (Bk.fit h) (Bk.fit h') _ (by rw [decide_eq_true_eq]; exact ⟨fun e => by rw [e], Bk.cells_eq h h'⟩) w
theorem bk_neq_our (b b' : Bk) (h : b.ok) (h' : b'.ok) (w : World) : (binOp .neq 55 (.agg b.cells.toArray) (.agg b'.cells.toArray)).run Try.prog w = .ok (.bool (!decide (b = b'))) w :=
  flat_binop_neq (m := 6) (D := 6) (by omega) (by kernel_rfl) (ks := bkKinds) (by kernel_rfl) (by kernel_rfl) (Bk.fit h) (Bk.fit h') _ (by rw [decide_eq_true_eq]; exact ⟨fun e => by rw [e], Bk.cells_eq h h'⟩) w

end Go.Proofs.Ytihlbfbplmehiaa
