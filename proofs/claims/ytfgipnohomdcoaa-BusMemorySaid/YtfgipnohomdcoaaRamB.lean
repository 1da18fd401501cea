/- Walks of package walk's memory: Word, Put; and the reference's Word. -/
import Derived.Test.YtfgipnohomdcoaaRamA
import Derived.Test.YtfgipnohomdcoaaTail
namespace Go.Proofs.Ytfgipnohomdcoaa
open Go.RowKit
set_option maxHeartbeats 4000000

/-- a memory: where it stands, where its words are -/
structure RW (w : World) (gr gw : Nat) (base : Int) (ws : List Int) : Prop where
  ex : ∃ a cap, At w gr [.int .u32 base, .slice a ws.length cap] 29 ∧ (ws = [] ∨ ∃ c, a = some ⟨gw, 0, none⟩ ∧ At w gw c 22 ∧ c.take ws.length = ws.map uv ∧ ws.length ≤ c.length)
  b : 0 ≤ base ∧ base < 4294967296
  r : ∀ x ∈ ws, 0 ≤ x ∧ x < 4294967296
  l : ws.length ≤ 1000
  ne : gr ≠ gw
theorem RW.below {w w' : World} {gr gw : Nat} {base : Int} {ws : List Int} (h : RW w gr gw base ws) (hb : Below w.heap.size w w') : RW w' gr gw base ws := by
  obtain ⟨a, cap, h1, h2⟩ := h.ex
  refine ⟨⟨a, cap, h1.of_below hb, ?_⟩, h.b, h.r, h.l, h.ne⟩
  rcases h2 with h2 | ⟨c, e1, e2, e3, e4⟩
  · exact .inl h2
  · exact .inr ⟨c, e1, e2.of_below hb, e3, e4⟩
theorem RW.same {w w' : World} {g gr gw : Nat} {base : Int} {ws : List Int} (h : RW w gr gw base ws) (hs : Same g w w') (h1 : gr ≠ g) (h2 : gw ≠ g) : RW w' gr gw base ws := by
  obtain ⟨a, cap, e1, e2⟩ := h.ex
  refine ⟨⟨a, cap, hs.at e1 h1, ?_⟩, h.b, h.r, h.l, h.ne⟩
  rcases e2 with e2 | ⟨c, f1, f2, f3, f4⟩
  · exact .inl e2
  · exact .inr ⟨c, f1, hs.at f2 h2, f3, f4⟩

/-- the word at a place, and whether there is one; the words, with another one there -/
def wdAt (base : Int) (ws : List Int) (t : Int) : Int × Bool := match memIdx base t ws.length with | some i => (ws[i]?.getD 0, true) | none => (0, false)
def wdPut (base : Int) (ws : List Int) (t v : Int) : List Int := match memIdx base t ws.length with | some i => ws.set i v | none => ws
theorem wdAt_some {base : Int} {ws : List Int} {t : Int} {i : Nat} (h : memIdx base t ws.length = some i) : wdAt base ws t = (ws[i]?.getD 0, true) := by unfold wdAt; rw [h]
theorem wdAt_none {base : Int} {ws : List Int} {t : Int} (h : memIdx base t ws.length = none) : wdAt base ws t = (0, false) := by unfold wdAt; rw [h]
theorem wdPut_some {base : Int} {ws : List Int} {t v : Int} {i : Nat} (h : memIdx base t ws.length = some i) : wdPut base ws t v = ws.set i v := by unfold wdPut; rw [h]
theorem wdPut_none {base : Int} {ws : List Int} {t v : Int} (h : memIdx base t ws.length = none) : wdPut base ws t v = ws := by unfold wdPut; rw [h]
theorem wdPut_len (base : Int) (ws : List Int) (t v : Int) : (wdPut base ws t v).length = ws.length := by unfold wdPut; split <;> simp
theorem wdPut_range {base : Int} {ws : List Int} {t v : Int} (h : ∀ x ∈ ws, 0 ≤ x ∧ x < 4294967296) (hv : 0 ≤ v ∧ v < 4294967296) : ∀ x ∈ wdPut base ws t v, 0 ≤ x ∧ x < 4294967296 := by
  unfold wdPut
  split
  · intro x hx
    exact (List.mem_or_eq_of_mem_set hx).elim (h x) (fun e => e ▸ hv)
  · exact h

set_option maxRecDepth 100000 in
theorem ramWord_any {base t : Int} {ws : List Int} {gr gw : Nat} (ht : 0 ≤ t ∧ t < 4294967296) (w : World) (h : RW w gr gw base ws) :
    Calls Try.prog 19 #[.pointer (some ⟨gr, 0, none⟩), .int .u32 t] w fun e w' => e = .returned (.tuple #[.int .u32 (wdAt base ws t).1, .bool (wdAt base ws t).2]) ∧ w = w' := by
  obtain ⟨a, cap, h1, h2⟩ := h.ex
  cases hm : memIdx base t ws.length with
  | none =>
    rw [wdAt_none hm]
    have hp := place_none h.b ht (Nat.le_trans h.l (by omega)) hm w h1
    have Hp := Lib.hid hp; clear hp hm h1 h2 h
    go_enter Try.func19, Try.ntmps19
    go_wp2_with (first
      | (go_at_call 30; refine Hp.out.mono ?_; rintro e w' ⟨rfl, rfl⟩)
      | fail)
    go_ret2
    exact ⟨rfl, rfl⟩
  | some i =>
    rw [wdAt_some hm]
    obtain ⟨_, _, _, _, hi⟩ := memIdx_some hm
    obtain ⟨c, rfl, h3, h4, h5⟩ := h2.resolve_left (by intro e; rw [e] at hi; simp at hi)
    have hp := place_some h.b ht (Nat.le_trans h.l (by omega)) hm w h1
    have hc : w.cell? ⟨gw, i, none⟩ = some (.int .u32 (ws[i]?.getD 0)) := by
      have : c[i]? = (ws.map uv)[i]? := by rw [← h4, List.getElem?_take, if_pos hi]
      rw [h3.cell, this, List.getElem?_map, List.getElem?_eq_getElem hi]; rfl
    rw [Nat.zero_add] at hp
    obtain ⟨y, hy⟩ : ∃ y, ws[i]?.getD 0 = y := ⟨_, rfl⟩
    rw [hy] at hc ⊢
    have Hp := Lib.hid hp; clear hp hm h1 h3 h4 h h2 hy
    go_enter Try.func19, Try.ntmps19
    go_wp2_with (first
      | (go_at_call 30; refine Hp.out.mono ?_; rintro e w' ⟨rfl, rfl⟩)
      | fail)
    go_ret2
    exact ⟨rfl, rfl⟩

set_option maxRecDepth 100000 in
theorem ramPut_any {base t v : Int} {ws : List Int} {gr gw : Nat} (ht : 0 ≤ t ∧ t < 4294967296) (hv : 0 ≤ v ∧ v < 4294967296) (w : World) (h : RW w gr gw base ws) :
    Calls Try.prog 25 #[.pointer (some ⟨gr, 0, none⟩), .int .u32 t, .int .u32 v] w fun e w' => e = .returned (.bool (wdAt base ws t).2) ∧ RW w' gr gw base (wdPut base ws t v) ∧ Same gw w w' := by
  obtain ⟨a, cap, h1, h2⟩ := h.ex
  have Hi1 : Hid ((Try.prog.info? 22).map (·.size) = some 1) := by unfold Hid; kernel_rfl
  cases hm : memIdx base t ws.length with
  | none =>
    rw [wdAt_none hm, wdPut_none hm]
    have hp := place_none h.b ht (Nat.le_trans h.l (by omega)) hm w h1
    have Hp := Lib.hid hp; have H := Lib.hid h; clear hp hm h1 h2 h
    go_enter Try.func25, Try.ntmps25
    go_wp2_with (first
      | (go_at_call 30; refine Hp.out.mono ?_; rintro e w' ⟨rfl, rfl⟩)
      | fail)
    go_ret
    exact ⟨rfl, H.out, Same.refl _ _⟩
  | some i =>
    obtain ⟨_, _, _, _, hi⟩ := memIdx_some hm
    obtain ⟨c, rfl, h3, h4, h5⟩ := h2.resolve_left (by intro e; rw [e] at hi; simp at hi)
    have hp := place_some h.b ht (Nat.le_trans h.l (by omega)) hm w h1
    rw [Nat.zero_add] at hp
    have hpost : ∀ w2, Upd w w2 gw (.cells (c.set i (.int .u32 v)).toArray 22) → RW w2 gr gw base (wdPut base ws t v) := by
      intro w2 hu
      refine ⟨⟨some ⟨gw, 0, none⟩, cap, by rw [wdPut_len]; exact hu.at h1 h.ne, .inr ⟨_, rfl, hu.to, ?_, ?_⟩⟩, h.b, wdPut_range h.r hv, by rw [wdPut_len]; exact h.l, h.ne⟩
      · rw [wdPut_len, List.take_set, h4, wdPut_some hm]
        show (ws.map uv).set i (uv v) = _
        rw [List.map_set]
      · rw [wdPut_len, List.length_set]; exact h5
    rw [wdAt_some hm]
    have Hpost := Lib.hid hpost; have Hp := Lib.hid hp; have H3 := Lib.hid h3; clear hpost hp hm h1 h3 h4 h h2
    go_enter Try.func25, Try.ntmps25
    go_wp2_with (first
      | (go_at_call 30; refine Hp.out.mono ?_; rintro e w' ⟨rfl, rfl⟩)
      | (refine st_cell (v := .int .u32 v) rfl rfl rfl rfl rfl H3.out Hi1.out (by omega) rfl ?_; intro w2 hu2; have HU := Lib.hid hu2; clear hu2)
      | fail)
    go_ret
    exact ⟨rfl, Hpost.out _ HU.out, HU.out.same⟩
end Go.Proofs.Ytfgipnohomdcoaa
