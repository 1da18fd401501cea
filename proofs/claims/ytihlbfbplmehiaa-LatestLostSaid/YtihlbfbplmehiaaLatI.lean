/- Walks of package latest: Of. -/
import Derived.Test.YtihlbfbplmehiaaLatH
namespace Go.Proofs.Ytihlbfbplmehiaa
open Go.RowKit Go.Shelf
set_option maxHeartbeats 4000000

/-- the latest pages of all sectors, by rising sectors -/
structure OfS (all t : List Pl) : Prop where
  sub : ∀ x ∈ t, x ∈ all
  up : t.Pairwise fun x y => x.p.s < y.p.s
  best : ∀ y ∈ all, ∃ x ∈ t, x.p.s = y.p.s ∧ ltP y x = false
theorem cpTo_mem {l : List Pl} : ∀ {n : Nat} {x : Pl}, x ∈ cpTo l n → ∃ i, i < n ∧ l[i]? = some x
  | 0, x, h => by cases h
  | n + 1, x, h => by
    unfold cpTo at h
    split at h
    · rcases List.mem_append.1 h with h | h
      · obtain ⟨i, h1, h2⟩ := cpTo_mem h; exact ⟨i, by omega, h2⟩
      · refine ⟨n, by omega, ?_⟩
        cases hq : l[n]? with
        | none => rw [hq] at h; cases h
        | some y => rw [hq] at h; simp at h; rw [h]
    · obtain ⟨i, h1, h2⟩ := cpTo_mem h; exact ⟨i, by omega, h2⟩
theorem srt_le {l : List Pl} (hs : SrtP l) {i j : Nat} {x y : Pl} (hij : i < j) (hx : l[i]? = some x) (hy : l[j]? = some y) : x.p.s ≤ y.p.s := by
  have := (ltP_false y x).1 (hs i j x y hij hx hy); omega
theorem cpTo_up {l : List Pl} (hs : SrtP l) : ∀ {n : Nat}, n ≤ l.length → (cpTo l n).Pairwise fun x y => x.p.s < y.p.s
  | 0, _ => by simp [cpTo]
  | n + 1, h => by
    have ih := cpTo_up hs (n := n) (by omega)
    obtain ⟨y, hy⟩ : ∃ y, l[n]? = some y := ⟨_, List.getElem?_eq_getElem (by omega)⟩
    cases hk : kept l n with
    | false => rw [cpTo_no hk]; exact ih
    | true =>
      rw [cpTo_yes hk hy, List.pairwise_append]
      refine ⟨ih, by simp, fun x hx z hz => ?_⟩
      simp only [List.mem_cons, List.not_mem_nil, or_false] at hz
      subst hz
      obtain ⟨i, hi, hxi⟩ := cpTo_mem hx
      cases n with
      | zero => omega
      | succ m =>
        obtain ⟨u, hu⟩ : ∃ u, l[m]? = some u := ⟨_, List.getElem?_eq_getElem (by omega)⟩
        have h1 : u.p.s ≠ z.p.s := by
          intro e
          rw [kept_no hy hu e.symm] at hk; cases hk
        have h2 := srt_le hs (Nat.lt_succ_self m) hu hy
        rcases Nat.lt_or_ge i m with h3 | h3
        · have := srt_le hs h3 hxi hu; omega
        · obtain rfl : i = m := by omega
          rw [hu] at hxi; cases hxi; omega
theorem ltP_irr (x : Pl) : ltP x x = false := swoP.irrefl x
theorem cpTo_best {l : List Pl} (hs : SrtP l) : ∀ {n : Nat}, n ≤ l.length → ∀ i y, i < n → l[i]? = some y → ∃ x ∈ cpTo l n, x.p.s = y.p.s ∧ ltP y x = false
  | 0, _, i, y, h, _ => by omega
  | n + 1, h, i, y, hi, hy => by
    obtain ⟨z, hz⟩ : ∃ z, l[n]? = some z := ⟨_, List.getElem?_eq_getElem (by omega)⟩
    have sub : ∀ x, x ∈ cpTo l n → x ∈ cpTo l (n + 1) := fun x hx => by
      cases hk : kept l n with
      | false => rw [cpTo_no hk]; exact hx
      | true => rw [cpTo_yes hk hz]; exact List.mem_append_left _ hx
    rcases Nat.lt_or_ge i n with h1 | h1
    · obtain ⟨x, hx, h2⟩ := cpTo_best hs (by omega) i y h1 hy
      exact ⟨x, sub x hx, h2⟩
    · obtain rfl : i = n := by omega
      rw [hy] at hz; cases hz
      cases hk : kept l i with
      | true => exact ⟨y, by rw [cpTo_yes hk hy]; simp, rfl, ltP_irr y⟩
      | false =>
        cases i with
        | zero => simp [kept] at hk
        | succ m =>
          obtain ⟨u, hu⟩ : ∃ u, l[m]? = some u := ⟨_, List.getElem?_eq_getElem (by omega)⟩
          have h2 : u.p.s = y.p.s := by
            refine Classical.byContradiction fun e => ?_
            rw [kept_yes hy hu (fun e' => e e'.symm)] at hk; cases hk
          obtain ⟨x, hx, h3, _⟩ := cpTo_best hs (n := m + 1) (by omega) m u (by omega) hu
          obtain ⟨i', hi', hx'⟩ := cpTo_mem hx
          exact ⟨x, sub x hx, by omega, hs i' (m + 1) x y hi' hx' hy⟩
theorem ofS_cp {l all : List Pl} (hs : SrtP l) (hp : l.Perm all) : OfS all (cp l) := by
  refine ⟨fun x hx => ?_, cpTo_up hs (Nat.le_refl _), fun y hy => ?_⟩
  · obtain ⟨i, _, h⟩ := cpTo_mem hx
    exact hp.mem_iff.1 (List.mem_of_getElem? h)
  · obtain ⟨i, hi⟩ := List.getElem?_of_mem (hp.mem_iff.2 hy)
    exact cpTo_best hs (Nat.le_refl _) i y (List.getElem?_eq_some_iff.1 hi).1 hi

theorem plsOf_len (bs : List Bk) : (plsOf bs).length ≤ 8 * bs.length := plsTo_len bs _

set_option maxRecDepth 100000 in
theorem sortedFunc_any (sv : Value) (bs : List Bk) (hlen : bs.length ≤ 1000) (B1 : Nat) (tB : TypeId) (w : World) (h1 : At w B1 [sv] tB) (h2 : Blt w sv bs) :
    Calls Try.prog 21 #[.func (.func 34) #[] #[.pointer (some ⟨B1, 0, none⟩)], .func (.func 23) #[] #[]] w fun e w' => (∃ v l', e = .returned v ∧ l'.Perm (plsOf bs) ∧ SrtP l' ∧ w'.ownsRow w.heap.size 29 9 v l'.length (plsCells l')) ∧ Below w.heap.size w w' := by
  have HC := Lib.hid (collect_any sv bs hlen B1 tB w h1 h2)
  have hpl := plsOf_len bs
  clear h1 h2
  go_enter Try.func21, Try.ntmps21
  go_wp2_with (first
    | (go_at_call 32; refine HC.out.mono ?_; rintro e w1 ⟨⟨v, rfl, ho⟩, hb⟩; have HO := Lib.hid ho; have HB := Lib.hid hb; clear ho hb)
    | (go_at_call 33; refine (sort_own (by omega) _ HB.out.size HO.out).mono ?_; rintro e w2 ⟨rfl, l', hp, hs, ho2, hb2⟩; have HO2 := Lib.hid ho2; have HB2 := Lib.hid (HB.out.trans hb2); have HP := Lib.hid hp; have HS := Lib.hid hs; clear ho2 hb2 hp hs)
    | fail)
  go_ret
  exact ⟨⟨_, l', rfl, HP.out, HS.out, by rw [HP.out.length_eq]; exact HO2.out⟩, HB2.out⟩

set_option maxRecDepth 100000 in
theorem of_any (sv : Value) (bs : List Bk) (hlen : bs.length ≤ 1000) (w : World) (h2 : Blt w sv bs) :
    Calls Try.prog 13 #[sv] w fun e w' => (∃ v t, e = .returned v ∧ OfS (plsOf bs) t ∧ w'.ownsRow w.heap.size 29 9 v t.length (plsCells t)) ∧ Below w.heap.size w w' := by
  have hpl := plsOf_len bs
  have H2 := Lib.hid h2
  have HA := Lib.hid (callsIn_wide.1 (all_in sv 1 w))
  clear h2
  go_enter Try.func13, Try.ntmps13
  go_wp2_with (first
    | (go_at_call 22; refine HA.out.mono ?_; rintro e w1 ⟨rfl, hn⟩
       have HN : Hid (At w1 w.heap.size sv.cells.toList 43) := Lib.hid (by have h := hn.here; unfold At; simpa using h)
       have HB := Lib.hid (hn.below (Nat.le_refl _)); have HS := Lib.hid hn.size; clear hn)
    | fail)
  have hc1 : sv.cells.toList = [sv] := by
    obtain ⟨a, c, rfl⟩ := H2.out.shape
    rfl
  rw [hc1] at HN
  clear hc1
  have HL := Lib.hid (H2.out.keep (keepB_below HB.out))
  refine (sortedFunc_any sv bs hlen _ _ _ HN.out HL.out).mono ?_
  rintro e w2 ⟨⟨v, l', rfl, hp, hs, ho⟩, hb⟩
  have hll : l'.length ≤ 100000 := by rw [hp.length_eq]; omega
  have hbb := HB.out.trans (hb.mono HB.out.size)
  have hown : w2.ownsRow w.heap.size 29 9 v l'.length (plsCells l') := by
    refine ⟨ho.1, ?_⟩
    rcases ho.2 with h | ⟨g, cap, cur, h1, h2, h3⟩
    · exact .inl h
    · exact .inr ⟨g, cap, cur, h1, Nat.le_trans HB.out.size h2, h3⟩
  have HO := Lib.hid hown; have HP := Lib.hid hp; have HSr := Lib.hid hs; have HBB := Lib.hid hbb
  clear hp hs ho hb hbb hown
  go_wp2_with (first
    | (go_at_call 24; refine (compact_own hll _ HBB.out.size HO.out).mono ?_; rintro e w3 ⟨⟨v', rfl, ho3⟩, hb3⟩; have HO3 := Lib.hid ho3; have HB3 := Lib.hid (HBB.out.trans hb3); clear ho3 hb3)
    | fail)
  go_ret
  exact ⟨⟨_, cp l', rfl, ofS_cp HSr.out HP.out, HO3.out⟩, HB3.out⟩
end Go.Proofs.Ytihlbfbplmehiaa
