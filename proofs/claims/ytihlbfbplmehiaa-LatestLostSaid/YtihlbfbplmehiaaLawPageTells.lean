/- The statement PageTells: which pages may be, any one's words, and what any words are, is the document's. No condition. -/
import Derived.Test.YtihlbfbplmehiaaPageF
import Derived.Test.YtihlbfbplmehiaaPageG
import Derived.Test.YtihlbfbplmehiaaLift
import Derived.Deep.RegionHeld3
namespace Go.Proofs.Ytihlbfbplmehiaa
open Go.ChangeShapes Go.WideShapes Go.ChangeAt Go.RowKit
set_option maxHeartbeats 4000000

theorem lit_i64 {x : Int} (h : -9223372036854775808 ≤ x ∧ x ≤ 9223372036854775807) : (Lit.int .i64 x).wf = true := by
  simp [Lit.wf, IntKind.min, IntKind.max, IntKind.signed, IntKind.bits]; omega

def Pg.lits (p : Pg) : List Lit := [.int .u32 p.s, .int .u32 p.q, .bool p.g, .int .u32 p.a, .int .u32 p.b, .int .u32 p.c, .int .u32 p.d]
theorem Pg.lits_eq {p q : Pg} (h : p.lits = q.lits) : p = q := by
  cases p; cases q; simp [Pg.lits] at h; simp [h]

set_option maxRecDepth 100000 in
theorem page_lits (p : Pg) (hp : p.ok) : Try.prog.keyLits 4 34 p.val.cells.toList = some p.lits := by
  obtain ⟨s, q, g, a, b, c, d⟩ := p
  obtain ⟨h0, h1, h2, h3, h4, h5⟩ := hp
  simp only [Pg.val, Pg.lits] at *
  simp [Program.keyLits, Try.underlying34, Try.underlying25, Try.underlying23, Try.underlying4, Value.cells, show Try.prog.cellsOf 23 = 1 from by kernel_rfl, show Try.prog.cellsOf 4 = 1 from by kernel_rfl, show Try.prog.cellsOf 25 = 4 from by kernel_rfl, show Try.prog.cellsOf 34 = 7 from by kernel_rfl, List.range, List.range.loop, lit_u32 h0, lit_u32 h1, lit_u32 h2, lit_u32 h3, lit_u32 h4, lit_u32 h5]

theorem page_eq (p q : Pg) (hp : p.ok) (hq : q.ok) (w : World) : (Op.equalIn 10000 34 p.val q.val).run Try.prog w = .ok (decide (p = q)) w :=
  eq_flat (P := Try.prog) (m := 3) (t := 34) (x := p.val) (y := q.val) (D := 4) (D' := 4) (by omega) (by kernel_rfl) (by kernel_rfl) (by kernel_rfl) (page_lits p hp) (page_lits q hq) (decide (p = q))
    (by simp only [decide_eq_true_eq]; exact ⟨fun h => by rw [h], Pg.lits_eq⟩) w

def Pg.cells (p : Pg) : List Value := [.int .u32 p.s, .int .u32 p.q, .bool p.g, .int .u32 p.a, .int .u32 p.b, .int .u32 p.c, .int .u32 p.d]
theorem Pg.val_cells (p : Pg) : p.val = .agg p.cells.toArray := rfl

theorem rd_ok (l : List Int) (h : ∀ x ∈ l, 0 ≤ x ∧ x < 4294967296) : (rd l).1.ok := by
  unfold rd
  split
  · simp [Pg.zero, Pg.ok, u32]
  · rename_i hl
    obtain ⟨x0, x1, x2, x3, x4, x5, x6, rfl⟩ := list7 (by simpa using hl)
    split
    · simp [Pg.zero, Pg.ok, u32]
    · have e0 := h x0 (by simp); have e1 := h x1 (by simp); have e2 := h x2 (by simp); have e3 := h x3 (by simp); have e4 := h x4 (by simp); have e5 := h x5 (by simp)
      have : u32 (x0 % 2147483648) := by simp only [u32]; omega
      exact ⟨this, e1, e2, e3, e4, e5⟩

theorem page_binop (p q : Pg) (hp : p.ok) (hq : q.ok) (w : World) : (binOp .eql 34 p.val q.val).run Try.prog w = .ok (.bool (decide (p = q))) w := by
  have h := page_eq p q hp hq w
  simp only [Pg.val] at h ⊢
  rw [run_eql_struct, h]
  rfl

set_option maxRecDepth 100000 in
theorem fit_page {cs : List Value} (h : Fit [some .u32, some .u32, none, some .u32, some .u32, some .u32, some .u32] cs) : ∃ p : Pg, cs = p.cells ∧ p.ok := by
  match cs, h with
  | [.int _ s, .int _ q, .bool g, .int _ a, .int _ b, .int _ c, .int _ d], h =>
    obtain ⟨⟨rfl, h1, h1'⟩, ⟨rfl, h2, h2'⟩, _, ⟨rfl, h3, h3'⟩, ⟨rfl, h4, h4'⟩, ⟨rfl, h5, h5'⟩, ⟨rfl, h6, h6'⟩, _⟩ := h
    have e : IntKind.u32.max = 4294967295 := rfl
    have e' : IntKind.u32.min = 0 := rfl
    rw [e] at h1' h2' h3' h4' h5' h6'
    rw [e'] at h1 h2 h3 h4 h5 h6
    have f : ∀ x : Int, 0 ≤ x → x ≤ 4294967295 → u32 x := fun x h h' => ⟨h, by omega⟩
    exact ⟨⟨s, q, g, a, b, c, d⟩, rfl, f _ h1 h1', f _ h2 h2', f _ h3 h3', f _ h4 h4', f _ h5 h5', f _ h6 h6'⟩

end Go.Proofs.Ytihlbfbplmehiaa
