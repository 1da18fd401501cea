/- A region that draws its order: all but its last operations read (their callees may draw, or make memory), the last ones come one behind the other, after all the others. -/
import Derived.Test.YtihlbfbplmehiaaQuiets
import Derived.StillTail
namespace Go.Proofs.Ytihlbfbplmehiaa
open Go.RowKit

section
variable {P : Program} {ops : Array Oper} {md : Region.Mode} {C : World → Prop}

/-- n operations are the head; what holds once they have come -/
def headQ (P : Program) (md : Region.Mode) (ops : Array Oper) (C : World → Prop) (n : Nat) (L : Array Bool → Act → Prop) : Nat → Array Bool → Act → Prop
  | 0, li, a => L li a
  | f + 1, li, a => Region.ready md ops li ≠ [] ∧ ∀ i ∈ Region.ready md ops li, i < n ∧ qOp P ops C i (headQ P md ops C n L f (li.setIfInBounds i true)) a

theorem headQ_any {n g : Nat} {L : Array Bool → Act → Prop} {R : Exit → Act → World → Prop} (hL : ∀ li a w, C w → L li a → wpAny P md ops R g li a w) :
    ∀ (f : Nat) (li : Array Bool) (a : Act) (w : World), C w → headQ P md ops C n L f li a → wpAny P md ops R (f + g) li a w
  | 0, li, a, w, hw, h => by rw [Nat.zero_add]; exact hL _ _ _ hw h
  | f + 1, li, a, w, hw, h => by
    have e : f + 1 + g = (f + g) + 1 := by omega
    rw [e]
    refine ⟨fun h0 => absurd h0 h.1, fun i hi => ?_⟩
    exact wpOp_of_qOp hw (fun a' w' hw' h' => headQ_any hL f _ a' w' hw' h') (h.2 i hi).2

theorem headQ_first {n i : Nat} {o : Oper} {v : Value} {L : Array Bool → Act → Prop} (ho : ops[i]? = some o) (hsel : ∀ (j : Nat) (o : Oper) cs b, ops[j]? = some o → o.op ≠ .select cs b)
    (hsink : Region.sinkB md ops n = true) (hchain : Region.chainB md ops n = true) (hn : n < ops.size) (hin : i < n) (hlast : ∀ li a, L li a → ∀ j ∈ Region.ready md ops li, n ≤ j) (f : Nat) :
    ∀ (li : Array Bool) (a : Act), HeadInv md ops n li →
      (∀ j p, ops[j]? = some p → j ≠ i → li.getD j true = false → (∀ e ∈ p.after, Region.binds md e = true → e.on ≠ i) → o.apart ops p = true) →
      i ∈ Region.ready md ops li → YieldsIn P ops C o v a → headQ P md ops C n L f (li.setIfInBounds i true) (a.put o.dst v) → headQ P md ops C n L (f + 1) li a := by
  induction f with
  | zero =>
    intro li a inv _ hr hy h
    refine ⟨List.ne_nil_of_mem hr, fun j hj => ?_⟩
    have hjn : j < n := Nat.lt_of_not_le fun hge => tail_waits hsink hchain hn inv _ i rfl hin (mem_ready.1 hr).1 j hge hj
    by_cases e : j = i
    · subst e; exact ⟨hjn, hy.qOp ho h⟩
    · exact absurd (hlast _ _ h j (ready_mono hj e)) (by omega)
  | succ f ih =>
    intro li a inv hfree hr hy h
    refine ⟨List.ne_nil_of_mem hr, fun j hj => ?_⟩
    have hun := (mem_ready.1 hr).1
    have hjn : j < n := Nat.lt_of_not_le fun hge => tail_waits hsink hchain hn inv _ i rfl hin hun j hge hj
    refine ⟨hjn, ?_⟩
    by_cases e : j = i
    · subst e; exact hy.qOp ho h
    · obtain ⟨hju, p, hp, hall⟩ := mem_ready.1 hj
      have hno : ∀ e ∈ p.after, Region.binds md e = true → e.on ≠ i := fun e he hb hi => by
        have := hall e he hb
        rw [hi, getD_both hun] at this
        cases this
      have hstep := qOp_put hp (hfree j p hp e hju hno) (fun cs b => hsel i o cs b ho) (fun cs b => hsel j p cs b hp) hy (h.2 j (ready_mono hj e)).2
      refine qOp_mono (fun a' hh => ?_) hstep
      refine ih (li.setIfInBounds j true) a' (inv.set hj hjn) (fun k q hk hki hku hkn => hfree k q hk hki ?_ hkn) (ready_mono hr (Ne.symm e)) hh.1 ?_
      · by_cases ejk : j = k
        · subst ejk; exact hju
        · rwa [getD_set_ne true ejk] at hku
      · rw [Array.setIfInBounds_comm _ _ e]; exact hh.2

theorem headQ_lex {n g : Nat} {T : Act → Prop} (hsel : Region.noSelect ops = true) (hsink : Region.sinkB md ops n = true) (hchain : Region.chainB md ops n = true) (hn : n < ops.size) :
    ∀ (l : List Oper) (k : Nat) (li : Array Bool) (a : Act), (∀ j, j < l.length → l[j]? = ops[k + j]?) → k + l.length = n → HeadInv md ops n li → Region.lexHead md ops g l.length k li = true →
      wpQuiet P ops C T l a → headQ P md ops C n (fun li' a' => Region.seqB md ops g n li' = true ∧ T a') l.length li a
  | [], k, li, a, _, hk, _, hB, h => by
    obtain rfl : k = n := by simpa using hk
    exact ⟨by simpa [Region.lexHead] using hB, h⟩
  | o :: l, k, li, a, hl, hk, inv, hB, h => by
    have ho : ops[k]? = some o := by simpa using (hl 0 (by simp)).symm
    have hkn : k < n := by simp only [List.length_cons] at hk; omega
    simp only [List.length_cons, Region.lexHead, Bool.and_eq_true] at hB
    have hr : k ∈ Region.ready md ops li := by simpa using hB.1.1
    have hq : qOp P ops C k (wpQuiet P ops C T l) a := by unfold qOp; simp only [ho]; exact h
    obtain ⟨v, hy, hK⟩ := yieldsIn_of_qOp ho hq
    refine headQ_first ho (Region.noSelect_spec hsel) hsink hchain hn hkn (fun _ _ hL => seqB_ready hL.1) l.length li a inv (Region.free_spec ho hB.1.2) hr hy ?_
    exact headQ_lex hsel hsink hchain hn l (k + 1) _ _ (fun j hj => by have := hl (j + 1) (by simp; omega); simpa [Nat.add_assoc, Nat.add_comm 1 j] using this) (by simp only [List.length_cons] at hk; omega) (inv.set hr hkn) hB.2 hK

/-- the head in the order of the text, then the tail -/
theorem wp_region_tail {id : Nat} {R : Exit → Act → World → Prop} {a : Act} {w : World} {l : List Oper} (n : Nat) (hm : P.follows .mixedOrders = true) (hB : Region.lexTailB .any l.toArray n = true) (hC : C { w with drawn := w.drawn + 1 })
    (h : wpQuiet P l.toArray C (fun a' => ∀ w', C w' → wpList P l.toArray R (l.drop n) a' w') (l.take n) a) : (Code.region id l.toArray true).wp P R a w := by
  simp only [Region.lexTailB, Bool.and_eq_true, decide_eq_true_eq] at hB
  obtain ⟨⟨⟨⟨hsel, hn⟩, hsink⟩, hchain⟩, hlex⟩ := hB
  have hnl : n < l.length := by simpa using hn
  have htl : (l.take n).length = n := by simp; omega
  have hdl : (l.drop n).length = l.toArray.size - n := by simp
  have inv : HeadInv .any l.toArray n (Array.replicate l.toArray.size false) :=
    ⟨by simp, fun j p _ hj => (by rw [getD_replicate_false] at hj; cases hj), fun t _ ht => getD_in (by simpa using ht) (getD_replicate_false _ _)⟩
  have hh := headQ_lex (md := .any) (g := l.toArray.size - n) hsel hsink hchain hn (l.take n) 0 _ a (fun j hj => by
    have : j < n := by rw [htl] at hj; exact hj
    simp [this]) (by simpa using htl) inv (by rw [htl]; exact hlex) h
  refine wp_region_any hm ?_
  have hf := headQ_any (R := R) (g := l.toArray.size - n) (fun li a' w' hw' hL => by
    have hs := wpAny_of_seq (md := .any) (Q' := R) (l.drop n) n li a' w' (fun j => by simp [List.getElem?_drop]) (by rw [hdl]; exact hL.1) (hL.2 w' hw')
    rwa [hdl] at hs) _ _ _ _ hC hh
  rw [htl, show n + (l.toArray.size - n) = l.toArray.size by omega] at hf
  exact hf
end
/-- .. in whatever world above -/
theorem wp_region_tail_abv {P : Program} {id : Nat} {R : Exit → Act → World → Prop} {a : Act} {w : World} {l : List Oper} (n : Nat) (hm : P.follows .mixedOrders = true) (hB : Region.lexTailB .any l.toArray n = true)
    (h : wpQuiet P l.toArray (fun w' => ∃ u : Abv w, w' = u.u) (fun a' => ∀ w', (∃ u : Abv w, w' = u.u) → wpList P l.toArray R (l.drop n) a' w') (l.take n) a) : (Code.region id l.toArray true).wp P R a w :=
  wp_region_tail n hm hB ⟨⟨_, (Below.refl _ w).drew⟩, rfl⟩ h
/-- .. after some draws -/
theorem wp_region_tail_drew {P : Program} {id : Nat} {R : Exit → Act → World → Prop} {a : Act} {w : World} {l : List Oper} (n : Nat) (hm : P.follows .mixedOrders = true) (hB : Region.lexTailB .any l.toArray n = true)
    (h : wpQuiet P l.toArray (fun w' => ∃ k, w' = w.drewN k) (fun a' => ∀ w', (∃ k, w' = w.drewN k) → wpList P l.toArray R (l.drop n) a' w') (l.take n) a) : (Code.region id l.toArray true).wp P R a w :=
  wp_region_tail n hm hB ⟨1, rfl⟩ h
end Go.Proofs.Ytihlbfbplmehiaa
