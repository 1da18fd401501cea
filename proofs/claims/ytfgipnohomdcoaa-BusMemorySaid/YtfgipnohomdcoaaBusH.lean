/- Walk of package bus: Add, of places that may be. -/
import Derived.Test.YtfgipnohomdcoaaBusG
namespace Go.Proofs.Ytfgipnohomdcoaa
open Go.RowKit
set_option maxHeartbeats 4000000

/-- regions: a device, where it begins, where it ends -/
structure Rg where
  d : Value
  f : Int
  t : Int
def Rg.cells (r : Rg) : List Value := [r.d, .int .u64 r.f, .int .u64 r.t]
def rsCells (rs : List Rg) : List Value := rs.flatMap Rg.cells
theorem rsCells_get : ∀ (rs : List Rg) {k : Nat} {r : Rg}, rs[k]? = some r → ∀ j v, r.cells[j]? = some v → (rsCells rs)[k * 3 + j]? = some v
  | [], _, _, h, _, _, _ => by cases h
  | q :: rs, 0, r, h, j, v, hj => by
    simp only [List.getElem?_cons_zero, Option.some.injEq] at h
    subst h
    unfold rsCells
    rw [List.flatMap_cons, Nat.zero_mul, Nat.zero_add, List.getElem?_append_left (List.getElem?_eq_some_iff.1 hj).1]
    exact hj
  | q :: rs, k + 1, r, h, j, v, hj => by
    have ih := rsCells_get rs (k := k) (by simpa using h) j v hj
    unfold rsCells at ih ⊢
    rw [List.flatMap_cons, show (k + 1) * 3 + j = q.cells.length + (k * 3 + j) by unfold Rg.cells; simp; omega, List.getElem?_append_right (by omega), Nat.add_sub_cancel_left]
    exact ih
theorem rsCells_snoc (rs : List Rg) (r : Rg) : rsCells rs ++ r.cells = rsCells (rs ++ [r]) := by unfold rsCells; rw [List.flatMap_append]; simp

/-- a bus with its regions -/
structure BR (w : World) (B gb gr gw : Nat) (base : Int) (ws : List Int) (sv : Value) (rs : List Rg) : Prop where
  bw : BW w gb gr gw base ws sv
  own : w.ownsRow B 75 3 sv rs.length (rsCells rs)
  few : rs.length ≤ 100
  le : B ≤ gb ∧ B ≤ w.heap.size
theorem BR.elem {w : World} {B gb gr gw : Nat} {base : Int} {ws : List Int} {sv : Value} {rs : List Rg} (h : BR w B gb gr gw base ws sv rs) {k : Nat} {r : Rg} (hk : rs[k]? = some r) :
    ∃ g cap, sv = .slice (some ⟨g, 0, none⟩) rs.length cap ∧ ∀ W, Below w.heap.size w W → W.rangeAt g (k * 3) r.cells := by
  have hlt := (List.getElem?_eq_some_iff.1 hk).1
  rcases h.own.2 with ⟨rfl, h0⟩ | ⟨g, cap, cur, rfl, hb, hg, hn, hm, _, ht⟩
  · omega
  · refine ⟨g, cap, rfl, fun W hW j v hv => ?_⟩
    have hj : j < 3 := by have := (List.getElem?_eq_some_iff.1 hv).1; simpa [Rg.cells] using this
    have hgl := (Array.getElem?_eq_some_iff.1 hg).1
    have hgc := rsCells_get rs hk j v hv
    rw [← ht, List.getElem?_take, if_pos (by omega)] at hgc
    rw [hW.cell (p := ⟨g, k * 3 + j, none⟩) hgl]
    have hc : cur[k * 3 + j]? = some v := by simpa using hgc
    simp [World.cell?, hg, hc]
theorem BR.shape {w : World} {B gb gr gw : Nat} {base : Int} {ws : List Int} {sv : Value} {rs : List Rg} (h : BR w B gb gr gw base ws sv rs) : ∃ a c, sv = .slice a rs.length c := by
  rcases h.own.2 with ⟨rfl, h0⟩ | ⟨g, cap, cur, rfl, _⟩
  · rw [h0]; exact ⟨none, 0, rfl⟩
  · exact ⟨_, _, rfl⟩

/-- places that are those of none -/
def clear1 (b n : Int) (r : Rg) : Prop := b + n ≤ r.f ∨ r.t ≤ b
instance (b n : Int) (r : Rg) : Decidable (clear1 b n r) := by unfold clear1; infer_instance
def clearRam (b n base : Int) (m : Nat) : Prop := b + n ≤ base ∨ base + 4 * m ≤ b
instance (b n base : Int) (m : Nat) : Decidable (clearRam b n base m) := by unfold clearRam; infer_instance

set_option maxRecDepth 100000 in
theorem busAdd_ram {B gb gr gw : Nat} {base b n : Int} {ws : List Int} {sv : Value} {rs : List Rg} {ty : TypeId} {d : Value} (hb : 0 ≤ b ∧ b < 4294967296) (hn : 0 ≤ n ∧ n < 4294967296) (hp : plc b n) (hc : ¬ clearRam b n base ws.length) (w : World) (h : BR w B gb gr gw base ws sv rs) :
    Calls Try.prog 15 #[.pointer (some ⟨gb, 0, none⟩), .int .u32 b, .int .u32 n, .iface ty d] w fun e w' => e = .returned (.bool false) ∧ w = w' := by
  have Hg := Lib.hid (good_any w h.bw.bus)
  have c0 : w.cell? ⟨gb, 0, none⟩ = some (.pointer (some ⟨gr, 0, none⟩)) := h.bw.bus.cell 0
  obtain ⟨ra, rcap, hra, -⟩ := h.bw.ram.ex
  have c2 : w.cell? ⟨gr, 0, none⟩ = some (.int .u32 base) := hra.cell 0
  have c3 : w.cell? ⟨gr, 1, none⟩ = some (.slice ra ws.length rcap) := hra.cell 1
  obtain ⟨hB1, hB2⟩ := h.bw.ram.b
  have hl := h.bw.ram.l
  have Hap := Lib.hid (apart_any b (b + n) base (base + 4 * ws.length) w)
  have hf : decide (b + n ≤ base ∨ base + 4 * (ws.length : Int) ≤ b) = false := decide_eq_false hc
  rw [hf] at Hap
  obtain ⟨hb1, hb2⟩ := hb
  obtain ⟨hn1, hn2⟩ := hn
  obtain ⟨p1, p2, p3, p4⟩ := hp
  have b1 : (b % 4 != 0) = false := by rw [bne_eq_false_iff_eq]; exact p1
  have b2 : (n % 4 != 0) = false := by rw [bne_eq_false_iff_eq]; exact p2
  have b3 : (n == 0) = false := by rw [beq_eq_false_iff_ne]; exact p3
  have b4 : decide (4294967296 < b + n) = false := by rw [decide_eq_false_iff_not]; omega
  clear p1 p2 p3 hf hc h hra
  go_enter Try.func15, Try.ntmps15
  go_wp2_with (first
    | (go_at_call 28; refine Hg.out.mono ?_; rintro e w' ⟨rfl, rfl⟩)
    | (go_at_call 29; refine Hap.out.mono ?_; rintro e w' ⟨rfl, rfl⟩)
    | fail)
  go_ret
  exact ⟨rfl, rfl⟩
end Go.Proofs.Ytfgipnohomdcoaa
