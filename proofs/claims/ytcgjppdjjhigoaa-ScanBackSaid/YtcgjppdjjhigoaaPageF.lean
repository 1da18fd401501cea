/- The answers that the statements of package page ask first. -/
import Derived.Test.YtcgjppdjjhigoaaPageE
namespace Go.Proofs.Ytcgjppdjjhigoaa
open Go.RowKit
set_option maxHeartbeats 1000000

def exPg : Pg := ⟨5, 9, false, 1, 2, 3, 4⟩
theorem exPg_ok : exPg.ok := by simp [exPg, Pg.ok, u32]
theorem exPg_words : exPg.words = [5, 9, 1, 2, 3, 4, 1526644958] := by decide
theorem exPg_rd : rd [5, 9, 1, 2, 3, 4, 1526644958] = (exPg, 1) := by decide
theorem ex_header : header 7 = [2970353665, 7, 4294967288, 1526644958] := by decide
theorem ex_count : count [2970353665, 7, 4294967288, 1526644958] = (7, 1) := by decide
theorem ex_at : atP 1 2 = 82 := by decide

theorem Ow.len7 {base : Nat} {e : TypeId} {w : World} {v : Value} {l : List Int} (h : Ow base e w v l) (hl : l ≠ []) : ∃ g cap, v = .slice (some ⟨g, 0, none⟩) l.length cap ∧ base ≤ g ∧ g < w.heap.size ∧ l.length ≤ cap ∧ ∀ w', Below w.heap.size w w' → ∀ i x, l[i]? = some x → w'.cell? ⟨g, i, none⟩ = some (.int .u32 x) := by
  have hs := h.sl
  obtain ⟨⟨_, h1⟩, _⟩ := h
  rcases h1 with ⟨rfl, h1⟩ | ⟨g, cap, cur, rfl, hg, hh, hc, _⟩
  · exact absurd (List.length_eq_zero_iff.1 h1) hl
  · obtain ⟨b, off, cap', he, _, _, hb, hcell⟩ := hs.cells hl
    simp only [Value.slice.injEq, Option.some.injEq, Addr.mk.injEq] at he
    obtain ⟨⟨rfl, rfl, _⟩, _, rfl⟩ := he
    exact ⟨g, cap, rfl, hg, hb, hc, fun w' hw i x hx => by have := hcell w' hw i x hx; rwa [Nat.zero_add] at this⟩

set_option maxRecDepth 100000 in
theorem alive04_any (w : World) : Calls Try.prog 15 #[] w fun e w' => e = .returned (.bool true) ∧ Below w.heap.size w w' := by
  have Hi : Hid ((Try.prog.info? 28).map (·.size) = some 7) := by unfold Hid; kernel_rfl
  go_enter Try.func15, Try.ntmps15
  go_wp2_with fail
  refine (words_any exPg exPg_ok _).mono ?_
  rintro e w1 ⟨⟨v, rfl, hv⟩, hb1⟩
  rw [exPg_words] at hv
  have Hb1 := Lib.hid hb1; clear hb1
  go_wp2_with fail
  refine (read_any _ _ _ hv.sl).mono ?_
  rw [exPg_rd]
  rintro e w2 ⟨rfl, hb2⟩
  have Hb2 := Lib.hid (Hb1.out.trans (hb2.mono Hb1.out.size))
  have hv2 := hv.below hb2
  clear hb2 hv
  simp only [Pg.val, exPg]
  go_wp2_with fail
  refine (header_any 7 (by simp [u32]) _).mono ?_
  rintro e w3 ⟨⟨u, rfl, hu⟩, hb3⟩
  rw [ex_header] at hu
  have hA3 : At w3 w2.heap.size [.int .u32 5, .int .u32 9, .bool false, .int .u32 1, .int .u32 2, .int .u32 3, .int .u32 4] 28 := by
    have := hb3.block w2.heap.size (by simp)
    unfold At; rw [this]; exact hp_new rfl
  have hbb3 : Below w2.heap.size w2 w3 := ((Below.refl _ _).alloc (Nat.le_refl _) _).trans (hb3.mono (by simp))
  have Hb3 := Lib.hid (Hb2.out.trans (hbb3.mono Hb2.out.size))
  have hv3 := hv2.below hbb3
  have Hsz := Lib.hid hb3.size
  clear hb3 hbb3 hv2
  go_wp2_with fail
  refine (count_any _ _ _ hu.sl).mono ?_
  rw [ex_count]
  rintro e w4 ⟨rfl, hb4⟩
  have hA4 := hA3.of_below hb4
  have hv4 := hv3.below hb4
  have Hb4 := Lib.hid (Hb3.out.trans (hb4.mono Hb3.out.size))
  have hlt : w2.heap.size < w4.heap.size := hA4.lt
  clear hA3 hv3 hb4 hu
  obtain ⟨g, cap, rfl, _, hg, hcap, hcv⟩ := hv4.len7 (by simp)
  have hc6 := hcv w4 (Below.refl _ _) 6 _ rfl
  have hcA := hA4.cell
  simp only [List.length_cons, List.length_nil, Nat.zero_add, Nat.reduceAdd] at hcap ⊢
  have Hv4 := Lib.hid hv4; have HA4 := Lib.hid hA4
  clear hcv hv4 hA4
  go_wp2_with fail
  refine (at_any _ _ _).mono ?_
  rintro e w' ⟨rfl, rfl⟩
  rw [ex_at]
  go_wp2_with fail
  have hr := right_any exPg exPg_ok
  simp only [Pg.val, exPg] at hr
  refine (hr _).mono ?_
  rintro e w5 ⟨rfl, hb5⟩
  have Hb5 := Lib.hid (Hb4.out.trans (hb5.mono Hb4.out.size))
  clear hr hb5
  go_wp2_with fail
  go_ret
  exact ⟨ret_bool (by decide), Hb5.out⟩
end Go.Proofs.Ytcgjppdjjhigoaa
