/- Layer 7: what a lost block takes with it. -/
import Derived.Test.YtihlbfbplmehiaaLatN
namespace Go.Proofs.Ytihlbfbplmehiaa
open Go.RowKit Go.Shelf

def zB : Bk := ⟨0, 0, List.replicate 8 0, List.replicate 8 Pg.zero⟩
theorem zB_cells : zB.cells = bk0 := rfl
theorem zB_ok : zB.ok := ⟨rfl, rfl, by decide, by decide, by decide, by intro p hp; rw [List.eq_of_mem_replicate hp]; exact zero_ok⟩
theorem lost_pls {bs : List Bk} {i : Nat} {x : Pl} : x ∈ plsOf (bs.set i zB) ↔ x ∈ plsOf bs ∧ x.b ≠ i := by
  rw [mem_pls, mem_pls]
  constructor
  · rintro ⟨b, hb, h2, h3, h4⟩
    by_cases e : x.b = i
    · rw [e] at hb
      have hi : i < bs.length := by have := (List.getElem?_eq_some_iff.1 hb).1; rwa [List.length_set] at this
      rw [List.getElem?_set_self hi] at hb
      cases hb
      have : (zB.ks[x.k]?).getD 0 = 0 := by
        unfold zB
        rw [List.getElem?_replicate]
        split <;> rfl
      rw [this] at h3
      cases h3
    · rw [List.getElem?_set_ne (Ne.symm e)] at hb
      exact ⟨⟨b, hb, h2, h3, h4⟩, e⟩
  · rintro ⟨⟨b, hb, h2, h3, h4⟩, e⟩
    exact ⟨b, by rw [List.getElem?_set_ne (Ne.symm e)]; exact hb, h2, h3, h4⟩
theorem stands_iff {x y : Pl} (hs : x.p.s = y.p.s) (hne : x ≠ y) : standsB x y = true ↔ y.p.q < x.p.q ∨ x.p.q = y.p.q ∧ (x.b ≠ y.b ∨ x.k < y.k) := by
  unfold standsB
  rw [if_neg (fun h => h.elim (fun h => h hs) hne)]
  simp
theorem mem_need {all : List Pl} {i : Nat} {x : Pl} : x ∈ neededOf all i all ↔ x ∈ all ∧ x.b = i ∧ ∀ y ∈ all, standsB y x = false := by
  unfold neededOf needP
  rw [List.mem_filter]
  simp
  exact fun _ _ => by omega
/-- in one block, one page of a sector that must be saved -/
theorem need_one {bs : List Bk} {i : Nat} {x y : Pl} (hx : x ∈ neededOf (plsOf bs) i (plsOf bs)) (hy : y ∈ neededOf (plsOf bs) i (plsOf bs)) (hs : x.p.s = y.p.s) : x = y := by
  obtain ⟨x1, x2, x3⟩ := mem_need.1 hx
  obtain ⟨y1, y2, y3⟩ := mem_need.1 hy
  by_cases hne : x = y
  · exact hne
  · have h1 : ¬ (standsB x y = true) := by rw [y3 x x1]; simp
    have h2 : ¬ (standsB y x = true) := by rw [x3 y y1]; simp
    rw [stands_iff hs hne] at h1
    rw [stands_iff hs.symm (Ne.symm hne)] at h2
    exact pls_same x1 y1 (by omega) (by omega)
theorem blk_up (i : Nat) (b : Bk) : ∀ n, (Bk.pls i b n).Pairwise fun x y => x.k < y.k
  | 0 => .nil
  | n + 1 => by
    have ih := blk_up i b n
    by_cases h : b.ks[n]?.getD 0 = 1
    · rw [pls_yes h, List.pairwise_append]
      refine ⟨ih, by simp, fun x hx y hy => ?_⟩
      rw [List.mem_singleton.1 hy]
      exact (mem_blkPls.1 hx).2.1
    · rw [pls_no h]; exact ih
theorem plsTo_up (bs : List Bk) : ∀ n, (plsTo bs n).Pairwise (fun x y => x ≠ y) ∧ ∀ x ∈ plsTo bs n, x.b < n
  | 0 => ⟨.nil, by simp [plsTo]⟩
  | n + 1 => by
    obtain ⟨h1, h2⟩ := plsTo_up bs n
    cases hb : bs[n]? with
    | none => rw [plsTo_none hb]; exact ⟨h1, fun x hx => by have := h2 x hx; omega⟩
    | some b =>
      rw [plsTo_succ hb]
      refine ⟨List.pairwise_append.2 ⟨h1, (blk_up n b 8).imp (fun h e => by rw [e] at h; omega), fun x hx y hy e => ?_⟩, fun x hx => ?_⟩
      · have := h2 x hx
        have h3 := (mem_blkPls.1 hy).1
        rw [e, h3] at this; omega
      · rcases List.mem_append.1 hx with hx | hx
        · have := h2 x hx; omega
        · rw [(mem_blkPls.1 hx).1]; omega
theorem need_up (bs : List Bk) (i : Nat) : (neededOf (plsOf bs) i (plsOf bs)).Pairwise (fun x y => x.p.s ≠ y.p.s) := by
  have h : (neededOf (plsOf bs) i (plsOf bs)).Pairwise (fun x y => x ≠ y) := ((plsTo_up bs bs.length).1).filter _
  refine List.Pairwise.imp_of_mem ?_ h
  intro x y hx hy hne hs
  exact hne (need_one hx hy hs)
/-- what is lost is lost just where its page had to be saved -/
theorem lost_law {bs : List Bk} {i : Nat} {t t' : List Pl} (h : OfS (plsOf bs) t) (h' : OfS (plsOf (bs.set i zB)) t') {x : Pl} (hx : x ∈ t) :
    ((fz (t'.map Pl.z) x.p.s).2 && decide ((fz (t'.map Pl.z) x.p.s).1.p.q = x.p.q)) = !((neededOf (plsOf bs) i (plsOf bs)).any fun y => decide (y.p.s = x.p.s)) := by
  have hxa := h.sub x hx
  by_cases hy : ∃ y ∈ neededOf (plsOf bs) i (plsOf bs), y.p.s = x.p.s
  · obtain ⟨y, hy, hys⟩ := hy
    have hany : ((neededOf (plsOf bs) i (plsOf bs)).any fun y => decide (y.p.s = x.p.s)) = true := List.any_eq_true.2 ⟨y, hy, by simp [hys]⟩
    rw [hany]
    obtain ⟨y1, y2, y3⟩ := mem_need.1 hy
    have hq : y.p.q = x.p.q := by
      by_cases e : x = y
      · rw [e]
      · have h1 : ¬ (standsB x y = true) := by rw [y3 x hxa]; simp
        rw [stands_iff hys.symm e] at h1
        have h2 := (ltP_false y x).1 (of_best h hx y1 hys)
        omega
    by_cases hz : ∃ z ∈ plsOf (bs.set i zB), z.p.s = x.p.s
    · obtain ⟨z, hz, hzs⟩ := hz
      obtain ⟨f, hf, hfs, hff, _⟩ := fz_some h' hz hzs
      obtain ⟨f1, f2⟩ := lost_pls.1 (h'.sub f hf)
      rw [hff]
      have hne : ¬ (f.p.q = x.p.q) := by
        intro e
        have hfy : f ≠ y := fun e => f2 (by rw [e]; exact y2)
        have h1 : ¬ (standsB f y = true) := by rw [y3 f f1]; simp
        rw [stands_iff (by rw [hfs, hys]) hfy] at h1
        omega
      simp [Pl.z, hne]
    · rw [fz_no h' (fun z hz' e => hz ⟨z, hz', e⟩)]
      rfl
  · have hany : ((neededOf (plsOf bs) i (plsOf bs)).any fun y => decide (y.p.s = x.p.s)) = false := by
      rw [List.any_eq_false]
      intro y hy' e
      exact hy ⟨y, hy', by simpa using e⟩
    rw [hany]
    have hz : ∃ z ∈ plsOf (bs.set i zB), z.p.s = x.p.s ∧ z.p.q = x.p.q := by
      by_cases hz : ∃ z ∈ plsOf (bs.set i zB), z.p.s = x.p.s ∧ z.p.q = x.p.q
      · exact hz
      · exfalso
        have hxi : x.b = i := by
          by_cases e : x.b = i
          · exact e
          · exact absurd ⟨x, lost_pls.2 ⟨hxa, e⟩, rfl, rfl⟩ hz
        refine hy ⟨x, mem_need.2 ⟨hxa, hxi, fun y hya => ?_⟩, rfl⟩
        cases hst : standsB y x with
        | false => rfl
        | true =>
          exfalso
          have hs : y.p.s = x.p.s := by
            by_cases e : y.p.s = x.p.s
            · exact e
            · unfold standsB at hst; rw [if_pos (.inl e)] at hst; cases hst
          have hne : y ≠ x := fun e => by unfold standsB at hst; rw [if_pos (.inr e)] at hst; cases hst
          rw [stands_iff hs hne] at hst
          have h2 := (ltP_false y x).1 (of_best h hx hya hs)
          refine hz ⟨y, lost_pls.2 ⟨hya, ?_⟩, hs, by omega⟩
          omega
    obtain ⟨z, hz, hzs, hzq⟩ := hz
    obtain ⟨f, hf, hfs, hff, hfb⟩ := fz_some h' hz hzs
    obtain ⟨f1, _⟩ := lost_pls.1 (h'.sub f hf)
    have h1 := (ltP_false z f).1 (hfb z hz hzs)
    have h2 := (ltP_false f x).1 (of_best h hx f1 hfs)
    rw [hff]
    have hq : f.p.q = x.p.q := by omega
    simp [Pl.z, hq]
end Go.Proofs.Ytihlbfbplmehiaa
