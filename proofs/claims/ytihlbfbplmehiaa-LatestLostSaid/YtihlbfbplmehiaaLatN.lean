/- Layer 7: the plain law of places. -/
import Derived.Test.YtihlbfbplmehiaaLatM
namespace Go.Proofs.Ytihlbfbplmehiaa
open Go.RowKit Go.Shelf

theorem mem_blkPls {i n : Nat} {b : Bk} {x : Pl} : x ∈ Bk.pls i b n ↔ x.b = i ∧ x.k < n ∧ b.ks[x.k]?.getD 0 = 1 ∧ x.p = b.ps[x.k]?.getD Pg.zero := by
  unfold Bk.pls
  rw [List.mem_filterMap]
  constructor
  · rintro ⟨j, hj, h⟩
    split at h
    · rename_i hk
      simp only [Option.some.injEq] at h
      subst h
      exact ⟨rfl, List.mem_range.1 hj, hk, rfl⟩
    · cases h
  · rintro ⟨h1, h2, h3, h4⟩
    refine ⟨x.k, List.mem_range.2 h2, ?_⟩
    rw [if_pos h3, ← h1, ← h4]
theorem mem_pls {bs : List Bk} {x : Pl} : x ∈ plsOf bs ↔ ∃ b, bs[x.b]? = some b ∧ x.k < 8 ∧ b.ks[x.k]?.getD 0 = 1 ∧ x.p = b.ps[x.k]?.getD Pg.zero := by
  unfold plsOf plsTo
  rw [List.mem_flatMap]
  constructor
  · rintro ⟨j, hj, h⟩
    split at h
    · rename_i b hb
      obtain ⟨h1, h2, h3, h4⟩ := mem_blkPls.1 h
      exact ⟨b, by rw [h1]; exact hb, h2, h3, h4⟩
    · cases h
  · rintro ⟨b, hb, h2, h3, h4⟩
    refine ⟨x.b, List.mem_range.2 (List.getElem?_eq_some_iff.1 hb).1, ?_⟩
    rw [hb]
    exact mem_blkPls.2 ⟨rfl, h2, h3, h4⟩
theorem pls_same {bs : List Bk} {x y : Pl} (hx : x ∈ plsOf bs) (hy : y ∈ plsOf bs) (hb : x.b = y.b) (hk : x.k = y.k) : x = y := by
  obtain ⟨b, h1, _, _, h4⟩ := mem_pls.1 hx
  obtain ⟨b', h1', _, _, h4'⟩ := mem_pls.1 hy
  rw [← hb, h1] at h1'
  cases h1'
  rw [← hk] at h4'
  obtain ⟨xb, xk, xp⟩ := x
  obtain ⟨yb, yk, yp⟩ := y
  simp only at hb hk h4 h4'
  subst hb hk
  rw [h4, h4']
theorem lt_total {bs : List Bk} {x y : Pl} (hx : x ∈ plsOf bs) (hy : y ∈ plsOf bs) (hs : x.p.s = y.p.s) (h1 : ltP x y = false) (h2 : ltP y x = false) : x = y := by
  have h1 := (ltP_false x y).1 h1
  have h2 := (ltP_false y x).1 h2
  exact pls_same hx hy (by omega) (by omega)
/-- what stands among the latest is the best of its sector -/
theorem of_best {all t : List Pl} (h : OfS all t) {x : Pl} (hx : x ∈ t) {y : Pl} (hy : y ∈ all) (hs : y.p.s = x.p.s) : ltP y x = false := by
  obtain ⟨x', hx', hs', hlt⟩ := h.best y hy
  rw [up_uniq h.up x hx x' hx' (by rw [hs', hs])]
  exact hlt
theorem pls_snoc (bs : List Bk) (nb : Bk) : plsOf (bs ++ [nb]) = plsOf bs ++ Bk.pls bs.length nb 8 := by
  have h : plsTo (bs ++ [nb]) bs.length = plsTo bs bs.length := by
    unfold plsTo
    have go : ∀ l : List Nat, (∀ j ∈ l, j < bs.length) → l.flatMap (fun j => match (bs ++ [nb])[j]? with | some x => Bk.pls j x 8 | none => []) = l.flatMap (fun j => match bs[j]? with | some x => Bk.pls j x 8 | none => []) := by
      intro l
      induction l with
      | nil => intro _; rfl
      | cons j l ih =>
        intro hl
        rw [List.flatMap_cons, List.flatMap_cons, ih (fun k hk => hl k (List.mem_cons_of_mem _ hk)), List.getElem?_append_left (hl j List.mem_cons_self)]
    exact go _ (fun j hj => List.mem_range.1 hj)
  unfold plsOf
  rw [List.length_append, List.length_singleton, plsTo_succ (x := nb) (by simp), h]
theorem bksCells_snoc (bs : List Bk) (x : Bk) : bksCells (bs ++ [x]) = bksCells bs ++ x.cells := by unfold bksCells; simp
/-- the block that LatestAdds lays behind the others -/
def addB (pg : Pg) : Bk := ⟨1, 0, [1, 0, 0, 0, 0, 0, 0, 0], [pg, Pg.zero, Pg.zero, Pg.zero, Pg.zero, Pg.zero, Pg.zero, Pg.zero]⟩
theorem addB_ok {pg : Pg} (h : pg.ok) : (addB pg).ok := ⟨rfl, rfl, by simp [addB], by simp [addB], by simp [addB], by simp [addB, h, zero_ok]⟩
theorem addB_pls (i : Nat) (pg : Pg) : Bk.pls i (addB pg) 8 = [⟨i, 0, pg⟩] := by rfl
theorem adds_pls (bs : List Bk) (pg : Pg) : plsOf (bs ++ [addB pg]) = plsOf bs ++ [⟨bs.length, 0, pg⟩] := by rw [pls_snoc, addB_pls]
/-- the page that was added is the latest of its sector -/
theorem adds_new {bs : List Bk} {pg : Pg} {t : List Pl} (h : OfS (plsOf (bs ++ [addB pg])) t) (hq : pg.q = topOf (plsOf bs) + 1) : fz (t.map Pl.z) pg.s = (⟨bs.length, 0, pg⟩, true) := by
  rw [adds_pls] at h
  obtain ⟨x, hx, hxs, hf, hb⟩ := fz_some h (y := ⟨bs.length, 0, pg⟩) (by simp) (s := pg.s) rfl
  have h1 := hb ⟨bs.length, 0, pg⟩ (by simp) rfl
  rcases List.mem_append.1 (h.sub x hx) with hm | hm
  · have h2 := top_le _ x hm
    rw [(ltP_iff _ _).2 (.inr ⟨hxs.symm, .inl (by show x.p.q < pg.q; omega)⟩)] at h1
    cases h1
  · rw [List.mem_singleton.1 hm] at hf
    rw [hf]; rfl
/-- .. and all other sectors' are as they were -/
theorem adds_old {bs : List Bk} {pg : Pg} {t t' : List Pl} (h : OfS (plsOf bs) t) (h' : OfS (plsOf (bs ++ [addB pg])) t') {x : Pl} (hx : x ∈ t) (hs : x.p.s ≠ pg.s) : fz (t'.map Pl.z) x.p.s = (x.z, true) := by
  rw [adds_pls] at h'
  obtain ⟨y, hy, hys, hf, hb⟩ := fz_some h' (y := x) (List.mem_append_left _ (h.sub x hx)) rfl
  have hm : y ∈ plsOf bs := by
    rcases List.mem_append.1 (h'.sub y hy) with hm | hm
    · exact hm
    · rw [List.mem_singleton.1 hm] at hys
      exact absurd hys.symm hs
  have h1 := hb x (List.mem_append_left _ (h.sub x hx)) rfl
  have h2 := of_best h hx hm hys
  rw [hf, lt_total hm (h.sub x hx) hys h2 h1]
theorem own_grown2 {W W' : World} {base n sz : Nat} {e : TypeId} {v : Value} {xs : List Value} {row : Option Nat} (h : W.ownsRow base e sz v n xs) (hg : W.grownBy W' row) (hr : ∀ r, row = some r → r < base) : W'.ownsRow base e sz v n xs := by
  refine ⟨h.1, ?_⟩
  rcases h.2 with h0 | ⟨g, cap, cur, h1, hb, hc, hrest⟩
  · exact .inl h0
  · exact .inr ⟨g, cap, cur, h1, hb, by rw [hg.block g (Array.getElem?_eq_some_iff.1 hc).1 (fun e => by have := hr g e.symm; omega)]; exact hc, hrest⟩
theorem own_lt {W : World} {base n sz : Nat} {e : TypeId} {v : Value} {xs : List Value} (h : W.ownsRow base e sz v n xs) : ∀ r, v.ownBlock = some r → r < W.heap.size := fun r hr => by
  obtain ⟨_, cur, hc⟩ := own_block h hr
  exact (Array.getElem?_eq_some_iff.1 hc).1
end Go.Proofs.Ytihlbfbplmehiaa
