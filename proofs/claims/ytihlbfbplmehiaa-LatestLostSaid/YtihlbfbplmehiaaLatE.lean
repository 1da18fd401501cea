/- Walks of package slices at places: AppendSeq, Collect, over latest's iterator. -/
import Derived.Test.YtihlbfbplmehiaaLatD
namespace Go.Proofs.Ytihlbfbplmehiaa
open Go.RowKit Go.Shelf
set_option maxHeartbeats 4000000
attribute [local go_sem] Oper.semAt_some

/-- what the walk of AppendSeq carries along -/
structure CoW (w : World) (g2 : Nat) (v0 v : Value) (n : Nat) (cs : List Value) (W : World) : Prop where
  at2 : At W g2 [v0] 32
  own : W.ownsRow w.heap.size 29 9 v n cs
  below : Below w.heap.size w W
  hg : w.heap.size ≤ g2
section
variable {w W V : World} {g2 : Nat} {v0 v v' : Value} {n n' : Nat} {cs cs' : List Value}
theorem CoW.call (h : CoW w g2 v0 v n cs W) (hb : Below W.heap.size W V) : CoW w g2 v0 v n cs V :=
  ⟨h.at2.of_below hb, own_below h.own hb, h.below.trans (hb.mono h.below.size), h.hg⟩
theorem CoW.append (h : CoW w g2 v0 v n cs W) (ho : V.ownsRow w.heap.size 29 9 v' n' cs') (hg : W.grownBy V v.ownBlock) : CoW w g2 v0 v' n' cs' V :=
  ⟨at_grown h.at2 hg (own_ne h.own h.at2 (by decide)), ho, h.below.grown hg h.below.size (fun k e => (own_block h.own e).1), h.hg⟩
theorem CoW.keepB (h : CoW w g2 v0 v n cs W) (hg : W.grownBy V v.ownBlock) : KeepB W V := fun k c hA => at_grown hA hg (own_ne h.own hA (by decide))
theorem CoW.others (h : CoW w g2 v0 v n cs W) (hg : W.grownBy V v.ownBlock) : KeepsOthers W V := ⟨hg.size, fun k o hk hoc => by
  rw [hg.block k (Array.getElem?_eq_some_iff.1 hk).1 (fun e => by
    obtain ⟨_, cur, hc⟩ := own_block h.own e.symm
    rw [hc] at hk; cases hk; cases hoc)]
  exact hk⟩
theorem CoW.stored (h : CoW w g2 v0 v n cs W) (hu : Upd W V g2 (.cells [v].toArray 32)) : CoW w g2 v v n cs V :=
  ⟨hu.to, own_upd h.own hu (own_ne h.own h.at2 (by decide)), h.below.trans (hu.below h.hg), h.hg⟩
theorem ownFrom_co {β : Type} (B : Nat) (v : Value) (n : Nat) (cs : List Value) (hB : w.heap.size ≤ B) : OwnFrom B (fun (_ : β) W => CoW w g2 v v n cs W) := fun s W W' row hs hg hr =>
  ⟨ownFrom_at B g2 _ (fun _ => [v]) s W W' row hs.at2 hg hr, own_kept hs.own hg (fun r e => (hr r e).2), ownFrom_below (Nat.le_refl _) hB s W W' row hs.below hg hr, hs.hg⟩
end
def CoI (w : World) (g2 : Nat) (pre : List Po) (W : World) : Prop := ∃ v, CoW w g2 v v (pv pre).length (plsCells (pv pre)) W

set_option maxRecDepth 100000 in
theorem appendSeq_in (sv : Value) (bs : List Bk) (hlen : bs.length ≤ 1000) (B1 : Nat) (tB : TypeId) (w : World) (h1 : At w B1 [sv] tB) (h2 : Blt w sv bs) :
    CallsIn Fence.wide 14 Try.prog 42 #[.slice none 0 0, .func (.func 34) #[] #[.pointer (some ⟨B1, 0, none⟩)]] w fun e w' => (∃ v, e = .returned v ∧ w'.ownsRow w.heap.size 29 9 v (plsOf bs).length (plsCells (plsOf bs))) ∧ Below w.heap.size w w' := by
  refine callsIn_of_wp_marks Try.func42 rfl trivial ?_ rfl
  simp only [Try.ntmps42, List.size_toArray, List.length_cons, List.length_nil, Nat.reduceAdd, Nat.reduceSub, Array.replicate_succ, Array.replicate_zero, List.push_toArray, List.append_toArray, List.nil_append, List.cons_append]
  have Hi9 : Hid ((Try.prog.info? 29).map (·.size) = some 9) := by unfold Hid; kernel_rfl
  have Hi1 : Hid ((Try.prog.info? 32).map (·.size) = some 1) := by unfold Hid; kernel_rfl
  have Hz9 : Hid (((Try.prog.info? 29).bind (·.zero)).isSome = true) := by unfold Hid; kernel_rfl
  have Hzc : Hid (((Try.prog.info? 29).bind (·.zero)).map (·.cells.size) = some 9) := by unfold Hid; kernel_rfl
  have Hby : Hid (((Try.prog.info? 29).map (·.bytes)).any (· ≤ 1000000) = true) := by unfold Hid; kernel_rfl
  have H1 := Lib.hid h1; have H2 := Lib.hid h2; clear h1 h2
  gi_wp2_with fail
  obtain ⟨W3, hW3⟩ : ∃ W3, w.alloc (.cells #[.slice none 0 0] 32) = W3 := ⟨_, rfl⟩
  rw [hW3]
  have n1 := New.alloc w (.cells #[.slice none 0 0] 32)
  rw [hW3] at n1
  have hC : CoW w w.heap.size (.slice none 0 0) (.slice none 0 0) 0 [] W3 := ⟨n1.to, World.ownsRow_nil _ _ _ _, n1.below (Nat.le_refl _), Nat.le_refl _⟩
  have HC3 := Lib.hid hC
  have HL3 := Lib.hid (H2.out.keep (keepB_below (n1.below (Nat.le_refl _))))
  have HB3 := Lib.hid (n1.at H1.out)
  clear hC n1 hW3
  obtain ⟨g2, hg2⟩ : ∃ g, w.heap.size = g := ⟨_, rfl⟩
  rw [hg2] at HC3 ⊢
  clear hg2
  refine wpIn_rangeFunc_ownH rfl (by omega) (gf := 34) (lb := #[.pointer (some ⟨B1, 0, none⟩)]) rfl trivial (enters_of Try.func34 (by kernel_rfl) rfl)
    (SeqStopsK.any (all_stops B1 _ bs hlen _ W3 HB3.out HL3.out)) keepB_t (fun W l o o' h1 h2 h3 h4 => keepB_b (w := W3) W l o o' h1 h2 h3 h4) (Below.refl _ _) (fun _ => rfl)
    (CoI w g2) (fun _ _ _ => False)
    (fun s W W' row hs hg hr => by obtain ⟨v, h⟩ := hs; exact ⟨v, ownFrom_co _ v _ _ HC3.out.below.size s W W' row h hg hr⟩) (fun _ _ _ _ _ hs _ _ => hs)
    ⟨_, HC3.out⟩
    (fun x a' W => ∃ gx, a' = { tmps := #[.slice none 0 0, .func (.func 34) #[] #[.pointer (some ⟨B1, 0, none⟩)], .pointer (some ⟨g2, 0, none⟩), undef, .slice none 0 0, .pointer (some ⟨gx, 0, none⟩), .func (.func 34) #[] #[.pointer (some ⟨B1, 0, none⟩)], .agg x.1.cells.toArray, undef, undef, undef, undef, undef], defers := [] } ∧ At W gx x.1.cells 29)
    (fun x a' s W W' row hs hg hr => by obtain ⟨gx, h1, h2⟩ := hs; exact ⟨gx, h1, ownFrom_at _ _ _ (fun _ : Unit => x.1.cells) () W W' row h2 hg hr⟩)
    ?assign ?body ?done ?stop
  case assign =>
    rintro l pre x W K ⟨v, hI⟩ hK
    have HI := Lib.hid hI; have HK := Lib.hid hK; clear hI hK
    unfold plEnc
    gi_wp2_with (first
      | (refine al_in rfl rfl (zero_place _) ?_; intro w3 hn3
         have HZ3 : Hid (At w3 W.heap.size (Pl.cells ⟨0, 0, Pg.zero⟩) 29) := Lib.hid hn3.to
         have HN3 := Lib.hid (hn3.below (Nat.le_refl _)); clear hn3; refine Hold.out ?_)
      | fail)
    refine ⟨?_⟩
    refine st_agg_in rfl rfl rfl rfl HZ3.out 9 Hi9.out (pl_len x.1) (Nat.le_refl 9) (pl_one x.1) ?_; intro w4 hu4
    have HA4 : Hid (At w4 W.heap.size x.1.cells 29) := Lib.hid hu4.to
    have HB4 : Hid (Below W.heap.size W w4) := Lib.hid (HN3.out.trans (hu4.below (Nat.le_refl _))); clear hu4
    gi_wp2_with fail
    exact HK.out _ _ ((keepsOthers_below HB4.out).from _) (keepB_below HB4.out) ⟨v, HI.out.call HB4.out⟩ ⟨_, rfl, HA4.out⟩
  case body =>
    rintro l pre x a' W hl hloop ⟨v, hI⟩ ⟨gx, rfl, hAx⟩ hN
    have hc5 : W.cell? ⟨g2, 0, none⟩ = some v := hI.at2.cell 0
    have Hx : Hid (W.rangeAt gx 0 x.1.cells) := Lib.hid (at_range hAx (pl_all (pl_len _)))
    have HI := Lib.hid hI; have HN := Lib.hid hN
    clear hI hAx hN hl hloop
    gi_wp2_with (first
      | (refine ld_in rfl rfl rfl Hx.out Try.underlying29 rfl Hi9.out ?_; refine Hold.out ?_)
      | fail)
    refine ⟨?_⟩
    refine bs_step (K := wpListIn _ _ _ _ _ _) rfl rfl rfl Try.underlying32 9 (pl_len x.1) Hi9.out Hz9.out (by decide) (by decide) ?_; intro V3 hn3
    have HI3 := Lib.hid (HI.out.call (hn3.below (Nat.le_refl _)))
    have HN3 : Hid (At V3 W.heap.size x.1.cells 29) := Lib.hid hn3.to
    have HK3 : Hid (KeepsFrom W3.heap.size W V3 ∧ KeepB W V3) := Lib.hid ⟨(keepsOthers_below (hn3.below (Nat.le_refl _))).from _, keepB_below (hn3.below (Nat.le_refl _))⟩
    clear hn3
    refine ap_step (K := wpListIn _ _ _ _ _ _) rfl _ _ _ rfl w.heap.size 29 9 Try.underlying32 Hi9.out Hzc.out Hby.out (by decide) v _ _ rfl HI3.out.own ⟨W.heap.size, 0, none⟩ 1 _ rfl (pl_len x.1) (fun j u hu => by have h := HN3.out.cell j; rw [hu] at h; rw [add0]; exact h) (pl_one x.1) (by have := HN.out; rw [pv_len]; omega) HI3.out.below.size ?_; intro v' V4 hown4 hgr4 hat4
    have HI4' := Lib.hid (HI3.out.append hown4 hgr4)
    have HK4 : Hid (KeepsFrom W3.heap.size W V4 ∧ KeepB W V4) := Lib.hid ⟨HK3.out.1.trans ((HI3.out.others hgr4).from _), keepB_t HK3.out.2 (HI3.out.keepB hgr4)⟩
    clear hown4 hgr4 hat4
    refine st_cell_in (v := v') rfl rfl rfl rfl (own_cells1 HI4'.out.own).1 HI4'.out.at2 Hi1.out (Nat.le_refl 1) (own_cells1 HI4'.out.own).2 ?_; intro V5 hu5
    have HI5' := Lib.hid (HI4'.out.stored hu5)
    have HK5 : Hid (KeepsFrom W3.heap.size W V5 ∧ KeepB W V5) := Lib.hid ⟨HK4.out.1.trans ((keepsOthers_upd HI4'.out.at2 hu5).from _), keepB_t HK4.out.2 (keepB_same HI4'.out.at2 (by decide) hu5.same)⟩
    clear hu5
    gi_wp2_with fail
    refine ⟨HK5.out.1, HK5.out.2, v', ?_⟩
    rw [pv_snoc, plsCells_snoc, List.length_append]
    exact HI5'.out
  case done =>
    rintro D xs W hD hxs ⟨v, hI⟩ hK
    rw [hxs] at hI
    clear hxs
    have hc5 : W.cell? ⟨g2, 0, none⟩ = some v := hI.at2.cell 0
    have HI := Lib.hid hI; have HD := Lib.hid hD; have HK := Lib.hid hK
    clear hI hD hK
    gi_wp2_with fail
    refine ⟨by simp, .inl ⟨_, _, rfl, run_takeDeferred HK.out, ?_⟩⟩
    refine ⟨v, by simp [results, Try.f42, go_sem], ⟨v, rfl, ?_⟩, below_putObj HI.out.below (Nat.le_trans HC3.out.below.size HD.out) (Nat.le_refl _)⟩
    exact own_kept HI.out.own (grownBy_putObj' W D _) (fun r e => by cases e; exact ⟨_, HK.out, rfl⟩)
  case stop =>
    rintro D c pre W _ _ h _
    exact h.elim
theorem collect_any (sv : Value) (bs : List Bk) (hlen : bs.length ≤ 1000) (B1 : Nat) (tB : TypeId) (w : World) (h1 : At w B1 [sv] tB) (h2 : Blt w sv bs) :
    Calls Try.prog 32 #[.func (.func 34) #[] #[.pointer (some ⟨B1, 0, none⟩)]] w fun e w' => (∃ v, e = .returned v ∧ w'.ownsRow w.heap.size 29 9 v (plsOf bs).length (plsCells (plsOf bs))) ∧ Below w.heap.size w w' := by
  have H := Lib.hid (callsIn_wide.1 (appendSeq_in sv bs hlen B1 tB w h1 h2))
  clear h1 h2
  go_enter Try.func32, Try.ntmps32
  go_wp2_with (first
    | (go_at_call 42; refine H.out.mono ?_; rintro e w1 ⟨⟨v, rfl, ho⟩, hb⟩; have HO := Lib.hid ho; have HB := Lib.hid hb; clear ho hb)
    | fail)
  go_ret
  exact ⟨⟨_, rfl, HO.out⟩, HB.out⟩
end Go.Proofs.Ytihlbfbplmehiaa
