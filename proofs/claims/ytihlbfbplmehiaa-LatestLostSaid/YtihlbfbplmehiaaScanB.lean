/- Walks of package scan: what is found in the words of a block. -/
import Derived.Test.YtihlbfbplmehiaaScanA
import Derived.Test.YtihlbfbplmehiaaLawPageTells
namespace Go.Proofs.Ytihlbfbplmehiaa
open Go.RowKit Go.Shelf
set_option maxHeartbeats 4000000
attribute [local go_sem] Oper.semAt_some

def bkCells (h c : Int) (ks : List Int) (ps : List Pg) : List Value := [.int .i64 h, .int .u32 c] ++ ks.map (.int .i64) ++ ps.flatMap Pg.cells

theorem pg_cells_length (p : Pg) : p.cells.length = 7 := rfl
theorem flat_len (ps : List Pg) : (ps.flatMap Pg.cells).length = 7 * ps.length := by
  induction ps with
  | nil => rfl
  | cons p ps ih => rw [List.flatMap_cons, List.length_append, ih, pg_cells_length, List.length_cons]; omega
theorem bk_length {h c : Int} {ks : List Int} {ps : List Pg} (hk : ks.length = 8) (hp : ps.length = 8) : (bkCells h c ks ps).length = 66 := by
  unfold bkCells; simp only [List.length_append, List.length_map, flat_len, hk, hp, List.length_cons, List.length_nil]

theorem bk_set_kind {h c : Int} {ks : List Int} {ps : List Pg} (hk : ks.length = 8) {x : Nat} (hx : x < 8) (k : Int) : (bkCells h c ks ps).set (2 + x) (.int .i64 k) = bkCells h c (ks.set x k) ps := by
  unfold bkCells
  rw [List.append_assoc, List.append_assoc, List.set_append_right _ _ (by simp), List.set_append_left _ _ (by simp [hk]; omega)]
  simp only [List.length_cons, List.length_nil]
  rw [show 2 + x - (0 + 1 + 1) = x by omega, List.map_set]

theorem flat_set (ps : List Pg) (p : Pg) : ∀ (x : Nat), x < ps.length → (ps.flatMap Pg.cells).take (7 * x) ++ p.cells ++ (ps.flatMap Pg.cells).drop (7 * x + 7) = (ps.set x p).flatMap Pg.cells := by
  induction ps with
  | nil => intro x hx; simp at hx
  | cons q ps ih =>
    intro x hx
    cases x with
    | zero =>
      simp only [List.set_cons_zero, List.flatMap_cons, Nat.mul_zero, List.take_zero, List.nil_append, Nat.zero_add]
      congr 1
    | succ x =>
      have h := ih x (by simpa using hx)
      simp only [List.set_cons_succ, List.flatMap_cons]
      rw [← h]
      rw [show 7 * (x + 1) = q.cells.length + 7 * x by rw [pg_cells_length]; omega, List.take_length_add_append, show q.cells.length + 7 * x + 7 = q.cells.length + (7 * x + 7) by omega, List.drop_length_add_append]
      simp only [List.append_assoc]

theorem bk_set_page {h c : Int} {ks : List Int} {ps : List Pg} (hk : ks.length = 8) (hp : ps.length = 8) {x : Nat} (hx : x < 8) (p : Pg) :
    (bkCells h c ks ps).take (10 + 7 * x) ++ p.cells ++ (bkCells h c ks ps).drop (10 + 7 * x + 7) = bkCells h c ks (ps.set x p) := by
  unfold bkCells
  have hl : ([Value.int .i64 h, Value.int .u32 c] ++ ks.map (Value.int .i64)).length = 10 := by simp [hk]
  rw [← flat_set ps p x (by omega)]
  rw [show 10 + 7 * x = ([Value.int .i64 h, Value.int .u32 c] ++ ks.map (Value.int .i64)).length + 7 * x by rw [hl], List.take_length_add_append,
    show ([Value.int .i64 h, Value.int .u32 c] ++ ks.map (Value.int .i64)).length + 7 * x + 7 = ([Value.int .i64 h, Value.int .u32 c] ++ ks.map (Value.int .i64)).length + (7 * x + 7) by omega, List.drop_length_add_append]
  simp only [List.append_assoc]

def ksf (kd : Fin 8 → Int) (pre : List (Fin 8)) : List Int := pre.foldl (fun ks x => ks.set x.1 (kd x)) (List.replicate 8 0)
def psf (pg : Fin 8 → Pg) (pre : List (Fin 8)) : List Pg := pre.foldl (fun ps x => ps.set x.1 (pg x)) (List.replicate 8 Pg.zero)
theorem ksf_snoc (kd : Fin 8 → Int) (pre : List (Fin 8)) (x : Fin 8) : ksf kd (pre ++ [x]) = (ksf kd pre).set x.1 (kd x) := by simp [ksf]
theorem psf_snoc (pg : Fin 8 → Pg) (pre : List (Fin 8)) (x : Fin 8) : psf pg (pre ++ [x]) = (psf pg pre).set x.1 (pg x) := by simp [psf]
theorem ksf_len (kd : Fin 8 → Int) (pre : List (Fin 8)) : (ksf kd pre).length = 8 := by
  unfold ksf
  have : ∀ (l : List (Fin 8)) (a : List Int), a.length = 8 → (l.foldl (fun ks x => ks.set x.1 (kd x)) a).length = 8 := by
    intro l
    induction l with
    | nil => intro a h; exact h
    | cons y l ih => intro a h; exact ih _ (by simpa using h)
  exact this _ _ (by simp)
theorem psf_len (pg : Fin 8 → Pg) (pre : List (Fin 8)) : (psf pg pre).length = 8 := by
  unfold psf
  have : ∀ (l : List (Fin 8)) (a : List Pg), a.length = 8 → (l.foldl (fun ps x => ps.set x.1 (pg x)) a).length = 8 := by
    intro l
    induction l with
    | nil => intro a h; exact h
    | cons y l ih => intro a h; exact ih _ (by simpa using h)
  exact this _ _ (by simp)

/-- the words of a block's page -/
def pgWords (l : List Int) (i : Nat) : List Int := (l.drop (4 + 7 * i)).take 7

theorem sl_sub {w : World} {b off cap : Nat} {l : List Int} (h : Sl w (.slice (some ⟨b, off, none⟩) l.length cap) l) (i n : Nat) (hi : i + n ≤ l.length) (hcap : l.length ≤ cap) (hc63 : cap ≤ 9223372036854775807) (hn : n ≤ 1000) (hb : b < w.heap.size) :
    Sl w (.slice (some ⟨b, off + i, none⟩) n (cap - i)) ((l.drop i).take n) := by
  have hl : ((l.drop i).take n).length = n := by rw [List.length_take, List.length_drop]; omega
  have hr := h.range
  refine .inr ⟨b, off + i, cap - i, by rw [hl], by omega, by omega, by omega, hb, ?_, fun x hx => hr x (List.mem_of_mem_drop (List.mem_of_mem_take hx))⟩
  intro j hj
  rw [hl] at hj
  have hne : l ≠ [] := by intro e; rw [e] at hi; simp at hi; omega
  obtain ⟨b', off', cap', he, _, _, _, hcell⟩ := h.cells hne
  simp only [Value.slice.injEq, Option.some.injEq, Addr.mk.injEq] at he
  obtain ⟨⟨rfl, rfl, _⟩, _, rfl⟩ := he
  have hx : l[i + j]? = some (l[i + j]'(by omega)) := List.getElem?_eq_getElem _
  have := hcell w (Below.refl _ _) (i + j) _ hx
  rw [show off + i + j = off + (i + j) by omega, this, List.getElem?_take, if_pos hj, List.getElem?_drop, hx]
  rfl
end Go.Proofs.Ytihlbfbplmehiaa
