/- Walks of package latest: Top. -/
import Derived.Test.YtihlbfbplmehiaaLatA
namespace Go.Proofs.Ytihlbfbplmehiaa
open Go.RowKit Go.Shelf
set_option maxHeartbeats 4000000
attribute [local go_sem] Oper.semAt_some

theorem zero_place (w : World) : (zeroValue 29).run Try.prog w = .ok (.agg (Pl.cells ⟨0, 0, Pg.zero⟩).toArray) w := by
  have h : (Try.prog.info? 29).bind (·.zero) = some (.agg (Pl.cells ⟨0, 0, Pg.zero⟩).toArray) := by kernel_rfl
  unfold zeroValue typeInfo
  cases hq : Try.prog.info? 29 with
  | none => rw [hq] at h; cases h
  | some i =>
    rw [hq] at h
    simp only [Option.bind_some] at h
    simp [hq, h]
theorem pl_len (x : Pl) : x.cells.length = 9 := rfl
theorem pl_one (x : Pl) : ∀ u ∈ x.cells, u.oneCell' = true := by
  intro u hu
  simp only [Pl.cells, Pg.cells, List.cons_append, List.nil_append, List.mem_cons, List.not_mem_nil, or_false] at hu
  rcases hu with rfl | rfl | rfl | rfl | rfl | rfl | rfl | rfl | rfl <;> rfl
/-- a place is loaded whole -/
theorem pl_all {c : List Value} (h : c.length = 9) : (c.drop 0).take 9 = c := by rw [List.drop_zero, List.take_of_length_le (by omega)]
theorem pl_st {c c' : List Value} (h : c.length = 9) : c.take 0 ++ c' ++ c.drop (0 + 9) = c' := by rw [List.take_zero, List.nil_append, List.drop_eq_nil_of_le (by omega), List.append_nil]

/-- the greatest number -/
def topOf (l : List Pl) : Int := l.foldl (fun n x => max n x.p.q) 0
theorem topOf_snoc (l : List Pl) (x : Pl) : topOf (l ++ [x]) = max (topOf l) x.p.q := by simp [topOf]
theorem pls_ok {bs : List Bk} (h : ∀ b ∈ bs, b.ok) : ∀ x ∈ plsOf bs, x.p.ok := by
  intro x hx
  unfold plsOf plsTo at hx
  obtain ⟨i, hi, hx⟩ := List.mem_flatMap.1 hx
  cases hb : bs[i]? with
  | none => simp [hb] at hx
  | some b =>
    simp only [hb] at hx
    unfold Bk.pls at hx
    obtain ⟨j, hj, hx⟩ := List.mem_filterMap.1 hx
    split at hx
    · cases hx
      have hok := h b (List.mem_of_getElem? hb)
      have hj := List.mem_range.1 hj
      show (b.ps[j]?.getD Pg.zero).ok
      rw [List.getElem?_eq_getElem (by rw [hok.ps]; exact hj)]
      exact hok.pr _ (List.getElem_mem _)
    · cases hx

set_option maxRecDepth 100000 in
theorem top_in (sv : Value) (bs : List Bk) (hlen : bs.length ≤ 1000) (w : World) (h2 : Blt w sv bs) :
    CallsIn Fence.wide 10 Try.prog 15 #[sv] w fun e w' => e = .returned (.int .u32 (topOf (plsOf bs))) ∧ Below w.heap.size w w' := by
  refine callsIn_of_wp_marks Try.func15 rfl trivial ?_ rfl
  simp only [Try.ntmps15, List.size_toArray, List.length_cons, List.length_nil, Nat.reduceAdd, Nat.reduceSub, Array.replicate_succ, Array.replicate_zero, List.push_toArray, List.append_toArray, List.nil_append, List.cons_append]
  have Hi9 : Hid ((Try.prog.info? 29).map (·.size) = some 9) := by unfold Hid; kernel_rfl
  have Hi1 : Hid ((Try.prog.info? 23).map (·.size) = some 1) := by unfold Hid; kernel_rfl
  obtain ⟨a, cp, rfl⟩ := h2.shape
  have H2 := Lib.hid h2; clear h2
  gi_wp2_with fail
  have hn1 := New.alloc w (.cells #[.int .u32 0] 23)
  obtain ⟨w1, hw1⟩ : ∃ w1, w.alloc (.cells #[.int .u32 0] 23) = w1 := ⟨_, rfl⟩
  rw [hw1] at hn1 ⊢
  have hA1 : At w1 w.heap.size [.int .u32 0] 23 := hn1.to
  have hB1 : Below w.heap.size w w1 := hn1.below (Nat.le_refl _)
  have HL1 := Lib.hid (H2.out.keep (keepB_below hB1))
  refine ⟨trivial, (all_in _ _ _).mono ?_⟩
  rintro e w2 ⟨rfl, hn2⟩
  have HA2 := Lib.hid (hn2.at hA1); have HB2 := Lib.hid (hB1.trans (hn2.below hB1.size)); have HL2 := Lib.hid (HL1.out.keep (keepB_below (hn2.below (Nat.le_refl _))))
  have HC2 : Hid (At w2 w1.heap.size [.slice a bs.length cp] 43) := Lib.hid hn2.to
  have HS2 : Hid (w1.heap.size = w.heap.size + 1) := Lib.hid (by rw [← hw1]; exact World.size_alloc _ _)
  clear hn1 hw1 hA1 hB1 hn2 HL1
  obtain ⟨g2, hg2⟩ : ∃ g, w.heap.size = g := ⟨_, rfl⟩
  obtain ⟨B1, hB1⟩ : ∃ g, w1.heap.size = g := ⟨_, rfl⟩
  rw [hg2] at HA2 ⊢
  rw [hB1] at HC2 ⊢
  have HG2 := Lib.hid hg2; clear hg2 hB1 HS2
  gi_wp2_with fail
  refine wpIn_rangeFunc_ownH rfl (by omega) (gf := 34) (lb := #[.pointer (some ⟨B1, 0, none⟩)]) rfl trivial (enters_of Try.func34 (by kernel_rfl) rfl)
    (all_stops B1 _ bs hlen _ w2 HC2.out HL2.out) keepB_t (fun W l o o' h1 h2 h3 h4 => keepB_b (w := w2) W l o o' h1 h2 h3 h4) (Below.refl _ _) (fun _ => rfl)
    (fun pre W => At W g2 [.int .u32 (topOf (pv pre))] 23 ∧ Below w.heap.size w W) (fun _ _ _ => False)
    (OwnFrom.and (ownFrom_at _ _ _ (fun pre => [.int .u32 (topOf (pv pre))])) (ownFrom_below (Nat.le_refl _) HB2.out.size)) (fun _ _ _ _ _ hs _ _ => hs)
    ⟨HA2.out, HB2.out⟩
    (fun x a' W => ∃ g3, a' = { tmps := #[.slice a bs.length cp, undef, .pointer (some ⟨g2, 0, none⟩), .pointer (some ⟨g3, 0, none⟩), .slice a bs.length cp, .func (.func 34) #[] #[.pointer (some ⟨B1, 0, none⟩)], .agg x.1.cells.toArray, undef, undef, undef, undef, undef, undef], defers := [] } ∧ At W g3 x.1.cells 29)
    (fun x a' s W W' row hs hg hr => by obtain ⟨g3, h1, h2⟩ := hs; exact ⟨g3, h1, ownFrom_at _ _ _ (fun _ : Unit => x.1.cells) () W W' row h2 hg hr⟩)
    ?assign ?body ?done ?stop
  case assign =>
    rintro l pre x W K ⟨hA, hB⟩ hK
    have HA := Lib.hid hA; have HB := Lib.hid hB; have HK := Lib.hid hK; clear hA hB hK
    unfold plEnc
    gi_wp2_with (first
      | (refine al_in rfl rfl (zero_place _) ?_; intro w3 hn3
         have HZ3 : Hid (At w3 W.heap.size (Pl.cells ⟨0, 0, Pg.zero⟩) 29) := Lib.hid hn3.to
         have HB3 := Lib.hid (hn3.below (Nat.le_refl _)); clear hn3; refine Hold.out ?_)
      | fail)
    refine ⟨?_⟩
    refine st_agg_in rfl rfl rfl rfl HZ3.out 9 Hi9.out (pl_len x.1) (Nat.le_refl 9) (pl_one x.1) ?_; intro w4 hu4
    have HA4 : Hid (At w4 W.heap.size x.1.cells 29) := Lib.hid hu4.to
    have HB4 : Hid (Below W.heap.size W w4) := Lib.hid (HB3.out.trans (hu4.below (Nat.le_refl _))); clear hu4
    gi_wp2_with fail
    exact HK.out _ _ ((keepsOthers_below HB4.out).from _) (keepB_below HB4.out) ⟨HA.out.of_below HB4.out, HB.out.trans (HB4.out.mono HB.out.size)⟩ ⟨_, rfl, HA4.out⟩
  case body =>
    rintro l pre x a' W hl hloop ⟨hA, hB⟩ ⟨g3, rfl, hA3⟩ hN
    have hc2 : W.cell? ⟨g2, 0, none⟩ = some (.int .u32 (topOf (pv pre))) := hA.cell 0
    have hc3 : W.cell? ⟨g3, 3, none⟩ = some (.int .u32 x.1.p.q) := hA3.cell 3
    have HA := Lib.hid hA; have HB := Lib.hid hB; have HA3 := Lib.hid hA3
    have Hst : Hid (topOf (pv (pre ++ [x])) = max (topOf (pv pre)) x.1.p.q) := Lib.hid (by rw [pv_snoc, topOf_snoc])
    clear hA hB hA3 hl hloop hN
    obtain ⟨m, hm⟩ : ∃ m, topOf (pv pre) = m := ⟨_, rfl⟩
    rw [hm] at hc2 HA Hst
    clear hm
    have fin : ∀ W3, Upd W W3 g2 (.cells [.int .u32 (max m x.1.p.q)].toArray 23) → KeepsFrom w2.heap.size W W3 ∧ KeepB W W3 ∧ At W3 g2 [.int .u32 (topOf (pv (pre ++ [x])))] 23 ∧ Below w.heap.size w W3 := fun W3 hu =>
      ⟨(keepsOthers_upd HA.out hu).from _, keepB_same HA.out (by decide) hu.same, by rw [Hst.out]; exact hu.to, HB.out.trans (hu.below (Nat.le_of_eq HG2.out))⟩
    have Hfin := Lib.hid fin; clear fin
    gi_wp2_with (first
      | (refine st_cell_in rfl rfl rfl rfl rfl HA.out Hi1.out (Nat.le_refl 1) rfl ?_; intro w3 hu3; have HU3 := Lib.hid hu3; clear hu3)
      | fail)
    exact Hfin.out _ HU3.out
  case done =>
    rintro D xs W hD hxs ⟨hA, hB⟩ hK
    rw [hxs] at hA
    clear hxs
    have hc2 : W.cell? ⟨g2, 0, none⟩ = some (.int .u32 (topOf (plsOf bs))) := hA.cell 0
    have HA := Lib.hid hA; have HB := Lib.hid hB; have HK := Lib.hid hK; have HD := Lib.hid hD; clear hA hB hK hD
    gi_wp2_with (first
      | (refine st_cell_in rfl rfl rfl rfl rfl HA.out Hi1.out (Nat.le_refl 1) rfl ?_; intro w3 hu3; have HU3 := Lib.hid hu3; clear hu3)
      | fail)
    have hA3 : At w3 g2 [.int .u32 (topOf (plsOf bs))] 23 := HU3.out.to
    have hK3 : w3.heap[D]? = some (.deferred (some [])) := (HU3.out.other D (fun e => by
      subst e
      have h1 := HA.out.heap
      rw [HK.out] at h1; cases h1)).trans HK.out
    refine ⟨by simp, .inl ⟨_, _, rfl, run_takeDeferred hK3, ?_⟩⟩
    have hc3 := (at_putObj (o' := .deferred none) hA3 hK3 rfl).cell 0
    refine ⟨.int .u32 (topOf (plsOf bs)), ?_, rfl, below_putObj (HB.out.trans (HU3.out.below (Nat.le_of_eq HG2.out))) (by have := HD.out; have := HB2.out.size; omega) (Nat.le_refl _)⟩
    simp [results, Try.f15, go_sem, hc3]
  case stop =>
    rintro D c pre W _ _ h _
    exact h.elim
theorem top_any (sv : Value) (bs : List Bk) (hlen : bs.length ≤ 1000) (w : World) (h2 : Blt w sv bs) :
    Calls Try.prog 15 #[sv] w fun e w' => e = .returned (.int .u32 (topOf (plsOf bs))) ∧ Below w.heap.size w w' := callsIn_wide.1 (top_in sv bs hlen w h2)
end Go.Proofs.Ytihlbfbplmehiaa
