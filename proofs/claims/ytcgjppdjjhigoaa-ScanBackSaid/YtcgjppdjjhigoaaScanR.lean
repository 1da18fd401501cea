/- The statements' own first question: what the document fixes of scan. -/
import Derived.Test.YtcgjppdjjhigoaaScanQ
namespace Go.Proofs.Ytcgjppdjjhigoaa
open Go.RowKit Go.Shelf
set_option maxHeartbeats 4000000

/-- a slice of blocks -/
theorem bl_found {w : World} {base : Nat} {e : TypeId} {v : Value} {l : List Int} {m : Nat} (h : w.ownsRow base e 66 v m (foundCells l m)) (hr : ∀ x ∈ l, 0 ≤ x ∧ x < 4294967296) : Bl w v (foundBks l m) :=
  Bl.of_own (by rw [foundBks_length, ← foundCells_eq]; exact h) (foundBks_ok hr m)
/-- words that the call owns -/
theorem sl_own {w : World} {base : Nat} {e : TypeId} {v : Value} {n : Nat} {l : List Int} (h : w.ownsRow base e 1 v n (l.map uv)) (hn : l.length = n) (hb : n ≤ 1000000) (hr : ∀ x ∈ l, 0 ≤ x ∧ x < 4294967296) : Sl w v l := by
  subst hn
  exact Ow.sl (base := base) (e := e) ⟨h, by omega, hr⟩
theorem sl_slice {w : World} {v : Value} {l : List Int} (h : Sl w v l) (hn : l ≠ []) : ∃ b off cap, v = .slice (some ⟨b, off, none⟩) l.length cap ∧ l.length ≤ cap ∧ cap ≤ 9223372036854775807 ∧ b < w.heap.size := by
  obtain ⟨b, off, cap, h1, h2, h3, h4, _⟩ := h.cells hn
  exact ⟨b, off, cap, h1, h2, h3, h4⟩

theorem u32_pgW {ps : List Pg} (h : ∀ p ∈ ps, p.ok) (k : Nat) : ∀ x ∈ pageW ps k, 0 ≤ x ∧ x < 4294967296 := by
  have ho : ∀ x ∈ ones7, 0 ≤ x ∧ x < 4294967296 := by decide
  unfold pageW
  split
  · rename_i p hp
    split
    · rename_i hr
      obtain ⟨h0, h1, h2, h3, h4, h5⟩ := h p (List.mem_of_getElem? hp)
      obtain ⟨hs, _⟩ := (Pg.right_iff p).1 hr
      rw [Pg.words_right hr]
      intro x hx
      simp only [List.mem_cons, List.not_mem_nil, or_false] at hx
      rcases hx with rfl | rfl | rfl | rfl | rfl | rfl | rfl
      · have := h0.1
        unfold Pg.first
        split <;> omega
      · exact h1
      · exact h2
      · exact h3
      · exact h4
      · exact h5
      · omega
    · exact ho
  · exact ho
theorem u32_blockW {ps : List Pg} (h : ∀ p ∈ ps, p.ok) {i : Nat} (hi : i ≤ 2147483648) : ∀ x ∈ blockW i ps, 0 ≤ x ∧ x < 4294967296 := by
  have ho : ∀ x ∈ ones4, 0 ≤ x ∧ x < 4294967296 := by decide
  unfold blockW pagesW header
  rw [if_neg (by omega)]
  intro x hx
  simp only [List.mem_append, List.mem_flatMap, List.mem_cons, List.not_mem_nil, or_false] at hx
  rcases hx with ((rfl | rfl | rfl | rfl) | ⟨k, _, hx⟩) | hx
  · omega
  · omega
  · omega
  · omega
  · exact u32_pgW h k x hx
  · exact ho x hx
theorem u32_builtW {l : List (List Pg)} (h : ∀ ps ∈ l, ∀ p ∈ ps, p.ok) {n : Nat} (hn : n ≤ 2147483648) : ∀ x ∈ builtW l n, 0 ≤ x ∧ x < 4294967296 := by
  intro x hx
  unfold builtW at hx
  obtain ⟨i, hi, hx⟩ := List.mem_flatMap.1 hx
  have hi := List.mem_range.1 hi
  refine u32_blockW (ps := l[i]?.getD []) ?_ (by omega) x hx
  cases hp : l[i]? with
  | none => simp
  | some ps => exact h ps (List.mem_of_getElem? hp)

def pA : Pg := ⟨3, 5, false, 0, 0, 0, 0⟩
def lA : List (List Pg) := [[pA], []]
def bA0 : Bk := ⟨1, 0, [1, 0, 0, 0, 0, 0, 0, 0], [pA, Pg.zero, Pg.zero, Pg.zero, Pg.zero, Pg.zero, Pg.zero, Pg.zero]⟩
def bA1 : Bk := ⟨1, 1, [0, 0, 0, 0, 0, 0, 0, 0], [Pg.zero, Pg.zero, Pg.zero, Pg.zero, Pg.zero, Pg.zero, Pg.zero, Pg.zero]⟩
theorem pA_ok : pA.ok := by simp [pA, Pg.ok, u32]
theorem lA_ok : ∀ ps ∈ lA, ∀ p ∈ ps, p.ok := by simp [lA, pA_ok]
theorem found_A : foundBks (builtW lA 2) 2 = [bA0, bA1] := by decide +kernel
theorem bA0_next : bA0.next = 1 := by decide +kernel
theorem bA1_next : bA1.next = 0 := by decide +kernel
theorem counts_A : countsOf [bA0, bA1] = 1 := by decide +kernel
theorem zero_ok : Pg.zero.ok := by simp [Pg.zero, Pg.ok, u32]
theorem bA0_ok : bA0.ok := ⟨rfl, rfl, by decide, by decide, by decide, by simp [bA0, pA_ok, zero_ok]⟩
theorem bA1_ok : bA1.ok := ⟨rfl, rfl, by decide, by decide, by decide, by simp [bA1, zero_ok]⟩

/-- the built slice of slices -/
theorem pss_A {w : World} {g1 g2 : Nat} {t1 t2 : TypeId} (h1 : At w g1 pA.cells t1) (h2 : At w g2 [.slice (some ⟨g1, 0, none⟩) 1 1, .slice none 0 0] t2) : Pss w (.slice (some ⟨g2, 0, none⟩) 2 2) lA := by
  refine ⟨[.slice (some ⟨g1, 0, none⟩) 1 1, .slice none 0 0], rfl, .inr ⟨g2, 0, 2, rfl, Nat.le_refl 2, by decide, h2.lt, ?_⟩, ?_, lA_ok⟩
  · intro i x hx j u hu
    match i, hx with
    | 0, hx => simp only [List.map_cons, List.getElem?_cons_zero, Option.some.injEq] at hx; subst hx; match j, hu with | 0, hu => rw [h2.cell]; exact hu
    | 1, hx => simp only [List.map_cons, List.getElem?_cons_succ, List.getElem?_cons_zero, Option.some.injEq] at hx; subst hx; match j, hu with | 0, hu => rw [h2.cell]; exact hu
  · intro i x ps hx hp
    match i, hx, hp with
    | 0, hx, hp =>
      simp only [lA, List.getElem?_cons_zero, Option.some.injEq] at hx hp
      subst hx hp
      refine ⟨.inr (.inr ⟨g1, 0, 1, rfl, by decide, by decide, h1.lt, ?_⟩), by decide⟩
      intro i x hx j u hu
      match i, hx with
      | 0, hx => simp only [List.map_cons, List.getElem?_cons_zero, Option.some.injEq] at hx; subst hx; rw [h1.cell]; simpa using hu
    | 1, hx, hp =>
      simp only [lA, List.getElem?_cons_succ, List.getElem?_cons_zero, Option.some.injEq] at hx hp
      subst hx hp
      exact ⟨.inr (.inl ⟨rfl, rfl⟩), by decide⟩

set_option maxRecDepth 100000 in
theorem alive06_any (w : World) : Calls Try.prog 30 #[] w fun e w' => e = .returned (.bool true) ∧ Below w.heap.size w w' := by
  have Hi7 : Hid ((Try.prog.info? 25).map (·.size) = some 7) := by unfold Hid; kernel_rfl
  have Hi66 : Hid ((Try.prog.info? 68).map (·.size) = some 66) := by unfold Hid; kernel_rfl
  go_enter Try.func30, Try.ntmps30
  go_wp2_with (first
    | (refine bd_run rfl rfl rfl (cells := pA.cells.toArray) (by kernel_rfl) ?_)
    | (refine bs_one rfl rfl rfl Try.underlying80 7 rfl Hi7.out (by kernel_rfl) (by decide) (by decide) ?_; intro w1 hn1
       have HA1 : Hid (At w1 w.heap.size pA.cells 25) := Lib.hid hn1.to; have HB1 := Lib.hid (hn1.below (Nat.le_refl _)); clear hn1)
    | fail)
  have hn2 := New.alloc w1 (.cells #[.slice (some ⟨w.heap.size, 0, none⟩) 1 1, .slice none 0 0] 80)
  refine (Built_any _ _ _ (pss_A (hn2.at HA1.out) hn2.to) (by decide)).mono ?_
  rintro e w2 ⟨⟨r2, rfl, ho2⟩, hb2⟩
  have HB2 := Lib.hid ((HB1.out.trans (hn2.below HB1.out.size)).trans (hb2.mono (Nat.le_trans HB1.out.size (by simp))))
  have hs2 : Sl w2 r2 (builtW lA 2) := sl_own ho2 (builtW_len lA 2 (by decide)) (by decide) (u32_builtW lA_ok (by decide))
  obtain ⟨sb, soff, scap, rfl, hsc, hs63, hsb⟩ := sl_slice hs2 (by decide +kernel)
  have hsl : (builtW lA 2).length = 128 := builtW_len lA 2 (by decide)
  have Hs2 := Lib.hid hs2; have Hsl := Lib.hid hsl
  rw [hsl]
  clear ho2 hb2 hs2 hsl HA1 HB1 hn2
  go_wp2_with fail
  have hw := scanWords_any sb soff scap 2 (builtW lA 2) w2 Hsl.out (by decide) hsc hs63 hsb Hs2.out
  rw [Hsl.out] at hw
  refine hw.mono ?_
  clear hw
  rintro e w3 ⟨⟨v3, rfl, ho3⟩, hb3⟩
  have hl3 : Bl w3 v3 [bA0, bA1] := by have h := bl_found ho3 (u32_builtW lA_ok (by decide)); rwa [found_A] at h
  have HL3 := Lib.hid hl3; have HB3 := Lib.hid (HB2.out.trans (hb3.mono HB2.out.size))
  clear ho3 hb3 hl3 HB2 Hs2 hsb
  go_wp2_with fail
  refine (scanWords_form none 0 0 w3 (by decide) (by decide)).mono ?_
  rintro e w' ⟨rfl, rfl⟩
  obtain ⟨_, b, off, cap, rfl, hbw, h0⟩ := HL3.out.block (i := 0) (x := bA0) rfl
  obtain ⟨_, b', off', cap', hv, _, h1⟩ := HL3.out.block (i := 1) (x := bA1) rfl
  simp only [Value.slice.injEq, Option.some.injEq, Addr.mk.injEq] at hv
  obtain ⟨⟨rfl, rfl, -⟩, -, rfl⟩ := hv
  have r0 : ∀ W, Below w'.heap.size w' W → W.rangeAt b off bA0.cells := fun W hb => by have h := h0 W hb; rwa [Nat.zero_mul, Nat.add_zero] at h
  have r1 : ∀ W, Below w'.heap.size w' W → W.rangeAt b (off + 66) bA1.cells := fun W hb => by have h := h1 W hb; rwa [Nat.one_mul] at h
  have c0 : w'.cell? ⟨b, off, none⟩ = some (.int .i64 1) := r0 w' (Below.refl _ _) 0 _ rfl
  have c1 : w'.cell? ⟨b, off + 10, none⟩ = some (.int .u32 3) := r0 w' (Below.refl _ _) 10 _ rfl
  have c2 : w'.cell? ⟨b, off + 67, none⟩ = some (.int .u32 1) := r1 w' (Below.refl _ _) 1 _ rfl
  have c2' : w'.cell? ⟨b, off + 66 + 1, none⟩ = some (.int .u32 1) := c2
  have R0 := Lib.hid r0; have R1 := Lib.hid r1
  clear h0 h1 r0 r1
  have hnx := next_bk bA0 bA0_ok; have hem0 := empty_bk bA0 bA0_ok; have hem1 := empty_bk bA1 bA1_ok
  rw [bA0_next] at hnx hem0
  rw [bA1_next] at hem1
  have Hnx := Lib.hid hnx; have He0 := Lib.hid hem0; have He1 := Lib.hid hem1; clear hnx hem0 hem1
  have Hcn := Lib.hid counts_A
  go_wp2_with (first
    | (refine ld_rng rfl rfl rfl (R0.out _ (Below.refl _ _)) Try.underlying68 rfl Hi66.out ?_)
    | (go_at_call 37; refine (Hnx.out _).mono ?_; rintro e w4 ⟨rfl, hb4⟩; have H4 := Lib.hid hb4; clear hb4)
    | (refine ld_rng rfl rfl rfl (R0.out _ H4.out) Try.underlying68 rfl Hi66.out ?_)
    | (go_at_call 39; (with_reducible refine (He0.out _).mono ?_); rintro e w5 ⟨rfl, hb5⟩; have H5 := Lib.hid (H4.out.trans (hb5.mono H4.out.size)); clear hb5)
    | (refine ld_rng rfl rfl rfl (R1.out _ H5.out) Try.underlying68 rfl Hi66.out ?_)
    | (go_at_call 39; (with_reducible refine (He1.out _).mono ?_); rintro e w6 ⟨rfl, hb6⟩; have H6 := Lib.hid (H5.out.trans (hb6.mono H5.out.size)); clear hb6)
    | (go_at_call 35; refine (counts_any _ [bA0, bA1] _ (HL3.out.below H6.out) (by decide)).mono ?_; rintro e w7 ⟨rfl, hb7⟩; rw [Hcn.out]; have H7 := Lib.hid (H6.out.trans (hb7.mono H6.out.size)); clear hb7)
    | fail)
  go_ret
  exact ⟨rfl, HB3.out.trans (H7.out.mono HB3.out.size)⟩
end Go.Proofs.Ytcgjppdjjhigoaa
