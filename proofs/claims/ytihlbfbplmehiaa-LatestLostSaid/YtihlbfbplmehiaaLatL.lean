/- Layer 7: what Find finds among the latest; the statements' own first question. -/
import Derived.Test.YtihlbfbplmehiaaLatK
namespace Go.Proofs.Ytihlbfbplmehiaa
open Go.RowKit Go.Shelf
set_option maxHeartbeats 4000000

theorem up_uniq {t : List Pl} (h : t.Pairwise fun x y => x.p.s < y.p.s) : ∀ x ∈ t, ∀ y ∈ t, x.p.s = y.p.s → x = y := by
  induction t with
  | nil => simp
  | cons a t ih =>
    rw [List.pairwise_cons] at h
    intro x hx y hy hs
    rcases List.mem_cons.1 hx with e | hx' <;> rcases List.mem_cons.1 hy with f | hy'
    · rw [e, f]
    · have := h.1 y hy'; subst e; omega
    · have := h.1 x hx'; subst f; omega
    · exact ih h.2 x hx' y hy' hs
/-- what Find finds: the best of that sector -/
theorem fz_some {all t : List Pl} (h : OfS all t) {y : Pl} (hy : y ∈ all) {s : Int} (hs : y.p.s = s) : ∃ x ∈ t, x.p.s = s ∧ fz (t.map Pl.z) s = (x.z, true) ∧ ∀ y ∈ all, y.p.s = s → ltP y x = false := by
  obtain ⟨x, hx, hxs, hlt⟩ := h.best y hy
  have hf : (t.map Pl.z).find? (fun x => x.p.s == s) = some x.z := by
    cases hq : (t.map Pl.z).find? (fun x => x.p.s == s) with
    | none =>
      rw [List.find?_eq_none] at hq
      have h1 := hq x.z (List.mem_map.2 ⟨x, hx, rfl⟩)
      have h2 : x.p.s = s := by rw [hxs]; exact hs
      simp only [Pl.z, h2, beq_self_eq_true, not_true_eq_false] at h1
    | some z =>
      have h1 := List.mem_of_find?_eq_some hq
      obtain ⟨x', hx', rfl⟩ := List.mem_map.1 h1
      have h2 := List.find?_some hq
      have h3 : x'.p.s = s := by simpa [Pl.z] using h2
      rw [up_uniq h.up x' hx' x hx (by rw [h3, hxs]; exact hs.symm)]
  refine ⟨x, hx, by rw [hxs]; exact hs, by unfold fz; rw [hf], ?_⟩
  intro y' hy' hs'
  obtain ⟨x', hx', hxs', hlt'⟩ := h.best y' hy'
  rw [up_uniq h.up x hx x' hx' (by rw [hxs, hxs', hs, hs'])]
  exact hlt'
theorem fz_no {all t : List Pl} (h : OfS all t) {s : Int} (hs : ∀ y ∈ all, y.p.s ≠ s) : fz (t.map Pl.z) s = (Pz.zero, false) := by
  have hf : (t.map Pl.z).find? (fun x => x.p.s == s) = none := by
    rw [List.find?_eq_none]
    intro z hz
    obtain ⟨x, hx, rfl⟩ := List.mem_map.1 hz
    have := hs x (h.sub x hx)
    simpa [Pl.z] using this
  unfold fz; rw [hf]
theorem top_le (l : List Pl) : ∀ x ∈ l, x.p.q ≤ topOf l := by
  have : ∀ (l : List Pl) (n : Int), n ≤ l.foldl (fun n x => max n x.p.q) n ∧ ∀ x ∈ l, x.p.q ≤ l.foldl (fun n x => max n x.p.q) n := by
    intro l
    induction l with
    | nil => intro n; simp
    | cons a l ih =>
      intro n
      simp only [List.foldl_cons]
      obtain ⟨h1, h2⟩ := ih (max n a.p.q)
      refine ⟨by omega, fun x hx => ?_⟩
      rcases List.mem_cons.1 hx with rfl | hx
      · omega
      · exact h2 x hx
  exact (this l 0).2
theorem top_hi (l : List Pl) (m : Int) (hm : 0 ≤ m) (h : ∀ x ∈ l, x.p.q ≤ m) : topOf l ≤ m := by
  have : ∀ (l : List Pl) (n : Int), n ≤ m → (∀ x ∈ l, x.p.q ≤ m) → l.foldl (fun n x => max n x.p.q) n ≤ m := by
    intro l
    induction l with
    | nil => intro n h _; simpa using h
    | cons a l ih =>
      intro n hn h
      simp only [List.foldl_cons]
      exact ih _ (by have := h a List.mem_cons_self; omega) (fun x hx => h x (List.mem_cons_of_mem _ hx))
  exact this l 0 hm h
theorem top_0 (l : List Pl) : 0 ≤ topOf l := by
  have : ∀ (l : List Pl) (n : Int), n ≤ l.foldl (fun n x => max n x.p.q) n := by
    intro l
    induction l with
    | nil => intro n; simp
    | cons a l ih => intro n; simp only [List.foldl_cons]; have := ih (max n a.p.q); omega
  exact this l 0

def pB : Pg := ⟨3, 6, false, 0, 0, 0, 0⟩
def lB : List (List Pg) := [[pA], [pB]]
def bB1 : Bk := ⟨1, 1, [1, 0, 0, 0, 0, 0, 0, 0], [pB, Pg.zero, Pg.zero, Pg.zero, Pg.zero, Pg.zero, Pg.zero, Pg.zero]⟩
def xB : Pl := ⟨1, 0, pB⟩
theorem pB_ok : pB.ok := by simp [pB, Pg.ok, u32]
theorem lB_ok : ∀ ps ∈ lB, ∀ p ∈ ps, p.ok := by simp [lB, pA_ok, pB_ok]
theorem found_B : foundBks (builtW lB 2) 2 = [bA0, bB1] := by decide +kernel
theorem bB1_ok : bB1.ok := ⟨rfl, rfl, by decide, by decide, by decide, by simp [bB1, pB_ok, zero_ok]⟩
theorem bB_ok : ∀ b ∈ [bA0, bB1], b.ok := by
  intro b hb
  rcases List.mem_cons.1 hb with rfl | hb
  · exact bA0_ok
  · rw [List.mem_singleton.1 hb]; exact bB1_ok
theorem plsB : plsOf [bA0, bB1] = [⟨0, 0, pA⟩, xB] := by decide +kernel
theorem topB : topOf (plsOf [bA0, bB1]) = 6 := by decide +kernel
theorem need0 : neededOf (plsOf [bA0, bB1]) 0 (plsOf [bA0, bB1]) = [] := by decide +kernel
theorem need1 : neededOf (plsOf [bA0, bB1]) 1 (plsOf [bA0, bB1]) = [xB] := by decide +kernel
theorem ofB {t : List Pl} (h : OfS (plsOf [bA0, bB1]) t) : t = [xB] := by
  rw [plsB] at h
  have hall : ∀ x ∈ t, x.p.s = 3 := by
    intro x hx
    have := h.sub x hx
    simp only [List.mem_cons, List.not_mem_nil, or_false] at this
    rcases this with rfl | rfl <;> rfl
  obtain ⟨x, hx, _, hlt⟩ := h.best xB (by simp)
  have hxB : x = xB := by
    have := h.sub x hx
    simp only [List.mem_cons, List.not_mem_nil, or_false] at this
    rcases this with rfl | rfl
    · exfalso; revert hlt; decide +kernel
    · rfl
  subst hxB
  match t, h.up, hall, hx with
  | [y], _, _, hx => rw [List.mem_singleton.1 hx]
  | y :: z :: r, hup, hall, _ =>
    exfalso
    have h1 := hall y (by simp)
    have h2 := hall z (by simp)
    have h3 := (List.pairwise_cons.1 hup).1 z (by simp)
    omega
theorem pss_B {w : World} {g0 g1 g2 : Nat} {t0 t1 t2 : TypeId} (h0 : At w g0 pA.cells t0) (h1 : At w g1 pB.cells t1) (h2 : At w g2 [.slice (some ⟨g0, 0, none⟩) 1 1, .slice (some ⟨g1, 0, none⟩) 1 1] t2) : Pss w (.slice (some ⟨g2, 0, none⟩) 2 2) lB := by
  refine ⟨[.slice (some ⟨g0, 0, none⟩) 1 1, .slice (some ⟨g1, 0, none⟩) 1 1], rfl, .inr ⟨g2, 0, 2, rfl, Nat.le_refl 2, by decide, h2.lt, ?_⟩, ?_, lB_ok⟩
  · intro i x hx j u hu
    match i, hx with
    | 0, hx => simp only [List.map_cons, List.getElem?_cons_zero, Option.some.injEq] at hx; subst hx; match j, hu with | 0, hu => rw [h2.cell]; exact hu
    | 1, hx => simp only [List.map_cons, List.getElem?_cons_succ, List.getElem?_cons_zero, Option.some.injEq] at hx; subst hx; match j, hu with | 0, hu => rw [h2.cell]; exact hu
  · intro i x ps hx hp
    match i, hx, hp with
    | 0, hx, hp =>
      simp only [lB, List.getElem?_cons_zero, Option.some.injEq] at hx hp
      subst hx hp
      refine ⟨.inr (.inr ⟨g0, 0, 1, rfl, by decide, by decide, h0.lt, ?_⟩), by decide⟩
      intro i x hx j u hu
      match i, hx with
      | 0, hx => simp only [List.map_cons, List.getElem?_cons_zero, Option.some.injEq] at hx; subst hx; rw [h0.cell]; simpa using hu
    | 1, hx, hp =>
      simp only [lB, List.getElem?_cons_succ, List.getElem?_cons_zero, Option.some.injEq] at hx hp
      subst hx hp
      refine ⟨.inr (.inr ⟨g1, 0, 1, rfl, by decide, by decide, h1.lt, ?_⟩), by decide⟩
      intro i x hx j u hu
      match i, hx with
      | 0, hx => simp only [List.map_cons, List.getElem?_cons_zero, Option.some.injEq] at hx; subst hx; rw [h1.cell]; simpa using hu
theorem blt_found {w : World} {base : Nat} {v : Value} {l : List Int} {m : Nat} (h : w.ownsRow base 55 66 v m (foundCells l m)) (hr : ∀ x ∈ l, 0 ≤ x ∧ x < 4294967296) : Blt w v (foundBks l m) :=
  Blt.of_own (by rw [foundBks_length, ← foundCells_eq]; exact h) (foundBks_ok hr m)
/-- places that the call owns, as a slice -/
theorem own_slice {w : World} {base : Nat} {e : TypeId} {v : Value} {n : Nat} {xs : List Value} (h : w.ownsRow base e 9 v n xs) : ∃ a c, v = .slice a n c := by
  rcases h.2 with ⟨rfl, rfl⟩ | ⟨g, cap, cur, rfl, _⟩
  · exact ⟨none, 0, rfl⟩
  · exact ⟨_, _, rfl⟩

set_option maxRecDepth 100000 in
theorem alive07_any (w : World) : Calls Try.prog 8 #[] w fun e w' => e = .returned (.bool true) ∧ Below w.heap.size w w' := by
  have Hi7 : Hid ((Try.prog.info? 34).map (·.size) = some 7) := by unfold Hid; kernel_rfl
  have Hi9 : Hid ((Try.prog.info? 29).map (·.size) = some 9) := by unfold Hid; kernel_rfl
  go_enter Try.func8, Try.ntmps8
  go_wp2_with (first
    | (refine bd_run rfl rfl rfl (cells := pA.cells.toArray) (by kernel_rfl) ?_)
    | (refine bs_one rfl rfl rfl Try.underlying64 7 (cs := pA.cells) rfl Hi7.out (by kernel_rfl) (by decide) (by decide) ?_; intro w1 hn1
       have HA1 : Hid (At w1 w.heap.size pA.cells 34) := Lib.hid hn1.to; have HB1 := Lib.hid (hn1.below (Nat.le_refl _)); clear hn1; refine Hold.out ?_)
    | fail)
  refine ⟨?_⟩
  go_wp2_with (first
    | (refine bd_run rfl rfl rfl (cells := pB.cells.toArray) (by kernel_rfl) ?_)
    | (refine bs_one rfl rfl rfl Try.underlying64 7 (cs := pB.cells) rfl Hi7.out (by kernel_rfl) (by decide) (by decide) ?_; intro w2 hn2
       have HA2 := Lib.hid (hn2.at HA1.out)
       have HC2 : Hid (At w2 w1.heap.size pB.cells 34) := Lib.hid hn2.to; have HB2 := Lib.hid (HB1.out.trans (hn2.below HB1.out.size)); clear hn2)
    | fail)
  have hn3 := New.alloc w2 (.cells #[.slice (some ⟨w.heap.size, 0, none⟩) 1 1, .slice (some ⟨w1.heap.size, 0, none⟩) 1 1] 64)
  refine (Built_any _ _ _ (pss_B (hn3.at HA2.out) (hn3.at HC2.out) hn3.to) (by decide)).mono ?_
  rintro e w3 ⟨⟨r3, rfl, ho3⟩, hb3⟩
  have HB3 := Lib.hid ((HB2.out.trans (hn3.below HB2.out.size)).trans (hb3.mono (Nat.le_trans HB2.out.size (by simp))))
  have hs3 : Sl w3 r3 (builtW lB 2) := sl_own ho3 (builtW_len lB 2 (by decide)) (by decide) (u32_builtW lB_ok (by decide))
  obtain ⟨sb, soff, scap, rfl, hsc, hs63, hsb⟩ := sl_slice hs3 (by decide +kernel)
  have hsl : (builtW lB 2).length = 128 := builtW_len lB 2 (by decide)
  have Hs3 := Lib.hid hs3; have Hsl := Lib.hid hsl
  rw [hsl]
  clear ho3 hb3 hs3 hsl HA1 HA2 HC2 HB1 HB2 hn3
  go_wp2_with fail
  have hw := scanWords_any sb soff scap 2 (builtW lB 2) w3 Hsl.out (by decide) hsc hs63 hsb Hs3.out
  rw [Hsl.out] at hw
  refine hw.mono ?_
  clear hw
  rintro e w4 ⟨⟨v4, rfl, ho4⟩, hb4⟩
  have hl4 : Blt w4 v4 [bA0, bB1] := by have h := blt_found ho4 (u32_builtW lB_ok (by decide)); rwa [found_B] at h
  have HL4 := Lib.hid hl4; have HB4 := Lib.hid (HB3.out.trans (hb4.mono HB3.out.size))
  clear ho4 hb4 hl4 HB3 Hs3 hsb
  go_wp2_with fail
  refine (of_any _ [bA0, bB1] (by decide) w4 HL4.out).mono ?_
  rintro e w5 ⟨⟨v5, t5, rfl, ht5, ho5⟩, hb5⟩
  obtain rfl := ofB ht5
  have HE5 : Hid (Es 9 w5 v5 ([xB.z].map Pz.cells)) := Lib.hid (es_own (n := 1) ho5 rfl)
  obtain ⟨a5, c5, rfl⟩ := own_slice ho5
  have HB5 := Lib.hid (HB4.out.trans (hb5.mono HB4.out.size))
  have HL5 := Lib.hid (HL4.out.keep (keepB_below hb5))
  clear ho5 hb5 HL4 HB4 ht5
  rw [show [xB].length = 1 from rfl] at HE5 ⊢
  go_wp2_with (first
    | (go_at_call 9; refine (find_any [xB.z] 3 _ _ HE5.out).mono ?_; rintro e w6 ⟨rfl, hb6⟩; rw [show fz [xB.z] 3 = (xB.z, true) from rfl]; have HB6 := Lib.hid (HB5.out.trans (hb6.mono HB5.out.size)); have HL6 := Lib.hid (HL5.out.keep (keepB_below hb6)); clear hb6)
    | (refine al_new rfl rfl (zero_pz _) ?_; intro w7 hn7
       have HA7 : Hid (At w7 w6.heap.size Pz.zero.cells 29) := Lib.hid hn7.to; have HB7 := Lib.hid (HB6.out.trans (hn7.below HB6.out.size)); have HN7 := Lib.hid (hn7.below (Nat.le_refl _)); have hs7 := HB6.out.size; clear hn7)
    | (refine st_agg rfl rfl rfl rfl HA7.out 9 Hi9.out (pz_len _) (Nat.le_refl 9) (pz_one _) ?_; intro w8 hu8
       have HA8 : Hid (At w8 w6.heap.size xB.z.cells 29) := Lib.hid hu8.to
       have HB8 := Lib.hid (HB7.out.trans (hu8.below hs7))
       have HL8 := Lib.hid (HL6.out.keep (keepB_below (HN7.out.trans (hu8.below (Nat.le_refl _)))))
       have d0 : w8.cell? ⟨w6.heap.size, 0, none⟩ = some (.int .i64 1) := HA8.out.cell 0
       clear hu8)
    | (go_at_call 16; refine (needed_any _ 0 _ (by decide) bB_ok _ HL8.out).mono ?_; rintro e w9 ⟨⟨v9, rfl, ho9⟩, hb9⟩; rw [need0] at ho9; obtain ⟨a9, c9, rfl⟩ := own_slice ho9; rw [show ([] : List Pl).length = 0 from rfl]; have HB9 := Lib.hid (HB8.out.trans (hb9.mono HB8.out.size)); have HL9 := Lib.hid (HL8.out.keep (keepB_below hb9)); clear hb9 ho9; refine Hold.out ?_)
    | fail)
  refine ⟨?_⟩
  go_wp2_with (first
    | (go_at_call 16; refine (needed_any _ 1 _ (by decide) bB_ok _ HL9.out).mono ?_; rintro e w10 ⟨⟨v10, rfl, ho10⟩, hb10⟩; rw [need1] at ho10; obtain ⟨a10, c10, rfl⟩ := own_slice ho10; rw [show [xB].length = 1 from rfl]; have HB10 := Lib.hid (HB9.out.trans (hb10.mono HB9.out.size)); have HL10 := Lib.hid (HL9.out.keep (keepB_below hb10)); clear hb10 ho10)
    | (go_at_call 15; refine (top_any _ _ (by decide) _ HL10.out).mono ?_; rintro e w11 ⟨rfl, hb11⟩; rw [topB]; have HB11 := Lib.hid (HB10.out.trans (hb11.mono HB10.out.size)); clear hb11)
    | fail)
  go_ret
  exact ⟨rfl, HB11.out⟩
end Go.Proofs.Ytihlbfbplmehiaa
