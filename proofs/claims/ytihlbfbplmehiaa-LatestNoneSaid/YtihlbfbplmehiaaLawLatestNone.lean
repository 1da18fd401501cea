/- The statement LatestNone: no block that is not there has pages that must be saved, and where no page counts there is none. No condition. -/
import Derived.Test.YtihlbfbplmehiaaLatN
import Derived.Test.YtihlbfbplmehiaaEqs
namespace Go.Proofs.Ytihlbfbplmehiaa
open Go.ChangeShapes Go.WideShapes Go.ChangeAt Go.RowKit Go.Shelf
set_option maxHeartbeats 8000000

theorem fitB07n : flatAt Try.prog 6 48 = some bkKinds := by kernel_rfl
theorem need_out {bs : List Bk} {i : Int} (h : i < 0 ∨ (bs.length : Int) ≤ i) : neededOf (plsOf bs) i (plsOf bs) = [] := by
  unfold neededOf
  rw [List.filter_eq_nil_iff]
  intro x hx
  obtain ⟨b, hb, _⟩ := mem_pls.1 hx
  have := (List.getElem?_eq_some_iff.1 hb).1
  unfold needP
  rw [decide_eq_false (by omega)]
  simp
/-- no page of it counts -/
def noCount (b : Bk) (j : Nat) : Prop := ∀ i < j, b.ks[i]?.getD 0 ≠ 1
theorem none_pls {bs : List Bk} (h : ∀ k < bs.length, ∀ b, bs[k]? = some b → noCount b 8) : plsOf bs = [] := by
  rw [List.eq_nil_iff_forall_not_mem]
  intro x hx
  obtain ⟨b, hb, hk, h1, _⟩ := mem_pls.1 hx
  exact h x.b (List.getElem?_eq_some_iff.1 hb).1 b hb x.k hk h1
theorem of_nil {t : List Pl} (h : OfS [] t) : t = [] := by
  rw [List.eq_nil_iff_forall_not_mem]
  intro x hx
  exact absurd (h.sub x hx) (by simp)
def setK (b : Bk) (j : Nat) : Bk := { b with ks := b.ks.set j 2 }
theorem setK_ok {b : Bk} (h : b.ok) (j : Nat) : (setK b j).ok :=
  ⟨by simp [setK, h.ks], h.ps, h.h, h.c, fun x hx => by
    rcases List.mem_or_eq_of_mem_set hx with h' | rfl
    · exact h.kr x h'
    · decide, h.pr⟩
theorem setK_cells {b : Bk} (h : b.ok) {j : Nat} (hj : j < 8) : (setK b j).cells = b.cells.set (2 + j) (.int .i64 2) := by
  unfold setK Bk.cells bkCells
  apply List.ext_getElem?
  intro i
  simp only [List.map_set]
  rw [List.append_assoc, List.append_assoc, List.set_append_right _ _ (by simp), List.set_append_left _ _ (by simp [h.ks]; omega)]
  simp
theorem setK_no {b : Bk} {j : Nat} (h : noCount b j) (hb : b.ok) (hj : j < 8) : noCount (setK b j) (j + 1) := by
  intro i hi
  unfold setK
  by_cases e : i = j
  · subst e; simp [List.getElem?_set, hb.ks, hj]
  · simp only [List.getElem?_set, if_neg (Ne.symm e)]; exact h i (by omega)

theorem bksCells_setK : ∀ {bs : List Bk} {k j : Nat} {b : Bk}, (∀ b ∈ bs, b.ok) → bs[k]? = some b → j < 8 → (bksCells bs).set (k * 66 + 2 + j) (.int .i64 2) = bksCells (bs.set k (setK b j))
  | [], k, j, b, _, h, _ => by cases h
  | x :: bs, 0, j, b, hok, h, hj => by
    simp only [List.getElem?_cons_zero, Option.some.injEq] at h
    subst h
    have hx := hok x List.mem_cons_self
    unfold bksCells
    rw [List.flatMap_cons, List.set_cons_zero, List.flatMap_cons, List.set_append_left _ _ (by rw [Bk.cells_length hx]; omega), setK_cells hx hj, Nat.zero_mul, Nat.zero_add]
  | x :: bs, k + 1, j, b, hok, h, hj => by
    have hx := hok x List.mem_cons_self
    have ih := bksCells_setK (bs := bs) (k := k) (j := j) (b := b) (fun c hc => hok c (List.mem_cons_of_mem _ hc)) (by simpa using h) hj
    unfold bksCells at ih ⊢
    rw [List.flatMap_cons, List.set_cons_succ, List.flatMap_cons, List.set_append_right _ _ (by rw [Bk.cells_length hx]; omega), Bk.cells_length hx, show (k + 1) * 66 + 2 + j - 66 = k * 66 + 2 + j by omega, ih]
def NoI (w : World) (B : Nat) (v : Value) (n k j : Nat) (W : World) : Prop := ∃ bs : List Bk, bs.length = n ∧ (∀ b ∈ bs, b.ok) ∧ W.ownsRow B 55 66 v n (bksCells bs) ∧ (∀ i < k, ∀ b, bs[i]? = some b → noCount b 8) ∧ (∀ b, bs[k]? = some b → noCount b j) ∧ w.heap.size ≤ B ∧ Below w.heap.size w W
theorem NoI.next {w W : World} {B n k : Nat} {v : Value} (h : NoI w B v n k 8 W) : NoI w B v n (k + 1) 0 W := by
  obtain ⟨bs, h1, h2, h3, h4, h5, h6⟩ := h
  refine ⟨bs, h1, h2, h3, fun i hi b hb => ?_, fun b _ i hi => absurd hi (by omega), h6⟩
  by_cases e : i = k
  · subst e; exact h5 b hb
  · exact h4 i (by omega) b hb
theorem NoI.step {w W : World} {B n k j : Nat} {v : Value} (h : NoI w B v n k j W) (hk : k < n) (hj : j < 8) : ∃ g cap cs x, v = .slice (some ⟨g, 0, none⟩) n cap ∧ At W g cs 55 ∧ k * 66 + 2 + j < cs.length ∧ cs[k * 66 + 2 + j]? = some (.int .i64 x) ∧ (x ≠ 1 → NoI w B v n k (j + 1) W) ∧
    (∀ W2, Upd W W2 g (.cells (cs.set (k * 66 + 2 + j) (.int .i64 2)).toArray 55) → NoI w B v n k (j + 1) W2) := by
  obtain ⟨bs, h1, h2, h3, h4, h5, h6, h7⟩ := h
  obtain ⟨b, hb⟩ : ∃ b, bs[k]? = some b := ⟨_, List.getElem?_eq_getElem (by omega)⟩
  have hbo := h2 b (List.mem_of_getElem? hb)
  rcases h3.2 with ⟨_, h0⟩ | ⟨g, cap, cur, rfl, hB, hc, hn, hm, hs, ht⟩
  · omega
  · have hA : At W g cur.toList 55 := by unfold At; simpa using hc
    have hlen : cur.toList.length = cap * 66 := by simpa using hs
    have hlt : k * 66 + 2 + j < n * 66 := by omega
    have hat : cur.toList[k * 66 + 2 + j]? = some (.int .i64 (b.ks[j]?.getD 0)) := by
      have h8 := bksCells_get h2 hb (r := 2 + j) (by omega)
      rw [← ht, List.getElem?_take, if_pos (by omega)] at h8
      rw [show k * 66 + 2 + j = 66 * k + (2 + j) by omega, h8]
      show (bkCells b.h b.c b.ks b.ps)[2 + j]? = _
      unfold bkCells
      rw [List.append_assoc, List.getElem?_append_right (by simp), List.getElem?_append_left (by simp [hbo.ks]; omega)]
      simp [List.getElem?_eq_getElem (show j < b.ks.length by rw [hbo.ks]; exact hj)]
    refine ⟨g, cap, cur.toList, b.ks[j]?.getD 0, rfl, hA, by rw [hlen]; omega, hat, ?_, ?_⟩
    · intro hx
      refine ⟨bs, h1, h2, h3, h4, fun b' hb' i hi => ?_, h6, h7⟩
      rw [hb] at hb'; cases hb'
      by_cases e : i = j
      · subst e; exact hx
      · exact h5 b hb i (by omega)
    · intro W2 hu
      refine ⟨bs.set k (setK b j), by rw [List.length_set, h1], ?_, ?_, ?_, ?_, h6, h7.trans ((hu.below hB).mono h6)⟩
      · intro c hc
        rcases List.mem_or_eq_of_mem_set hc with h' | rfl
        · exact h2 c h'
        · exact setK_ok hbo j
      · refine ⟨by rw [← bksCells_setK h2 hb hj, List.length_set]; exact h3.1, .inr ⟨g, cap, (cur.toList.set (k * 66 + 2 + j) (.int .i64 2)).toArray, rfl, hB, hu.here, hn, hm, by simp [hs], ?_⟩⟩
        rw [← bksCells_setK h2 hb hj, ← ht, ← List.take_set]
      · intro i hi c hc
        rw [List.getElem?_set_ne (by omega)] at hc
        exact h4 i hi c hc
      · intro c hc
        rw [List.getElem?_set_self (by omega)] at hc
        cases hc
        exact setK_no (h5 b hb) hbo hj
theorem NoI.done {w W : World} {B n : Nat} {v : Value} (h : NoI w B v n n 0 W) : ∃ bs : List Bk, bs.length = n ∧ (∀ b ∈ bs, b.ok) ∧ Blt W v bs ∧ plsOf bs = [] ∧ Below w.heap.size w W := by
  obtain ⟨bs, h1, h2, h3, h4, _, _, h7⟩ := h
  exact ⟨bs, h1, h2, Blt.of_own (by rw [h1]; exact h3) h2, none_pls (fun k hk b hb => h4 k (by omega) b hb), h7⟩

set_option maxRecDepth 100000 in
theorem latestNone_walk (v : Value) (bs : List Bk) (i : Int) (w : World) (hb : Bl w v bs) (hok : ∀ b ∈ bs, b.ok) (hlen : bs.length ≤ 12) :
    Calls Try.prog 6 #[v, .int .i64 i] w fun e w' => e = .returned (.bool true) ∧ Below w.heap.size w w' := by
  have Hi9 : Hid ((Try.prog.info? 29).map (·.size) = some 9) := by unfold Hid; kernel_rfl
  have Hi1 : Hid ((Try.prog.info? 3).map (·.size) = some 1) := by unfold Hid; kernel_rfl
  have Hok := Lib.hid hok
  obtain ⟨a, cp, rfl⟩ := hb.shape
  have Hb := Lib.hid hb
  have hd2 : decide ((12 : Int) < (bs.length : Int)) = false := by rw [decide_eq_false_iff_not]; omega
  have Hln := Lib.hid hlen
  clear hb hok
  obtain ⟨n, hn⟩ : ∃ n, bs.length = n := ⟨_, rfl⟩
  have hcase : (decide (i < 0) = true ∧ neededOf (plsOf bs) i (plsOf bs) = []) ∨ (decide (i < 0) = false ∧ decide ((n : Int) ≤ i) = true ∧ neededOf (plsOf bs) i (plsOf bs) = []) ∨ (decide (i < 0) = false ∧ decide ((n : Int) ≤ i) = false) := by
    by_cases h : i < 0
    · exact .inl ⟨decide_eq_true h, need_out (.inl h)⟩
    · by_cases h2 : (n : Int) ≤ i
      · exact .inr (.inl ⟨decide_eq_false h, decide_eq_true h2, need_out (.inr (by rw [hn]; exact h2))⟩)
      · exact .inr (.inr ⟨decide_eq_false h, decide_eq_false h2⟩)
  have hn12 : n ≤ 12 := by omega
  have Hn := Lib.hid hn
  rw [hn] at hd2
  rw [show (Value.slice a bs.length cp) = Value.slice a n cp by rw [hn]] at Hb ⊢
  have HNd : Hid (∀ W sv, Blt W sv bs → neededOf (plsOf bs) i (plsOf bs) = [] → Calls Try.prog 16 #[sv, .int .i64 i] W fun e w' => (∃ a c, e = .returned (.slice a 0 c)) ∧ Below W.heap.size W w') := Lib.hid fun W sv hB he => by
    refine (needed_any sv i bs (by omega) Hok.out W hB).mono ?_
    rintro e w' ⟨⟨v, rfl, ho⟩, hb⟩
    rw [he] at ho
    obtain ⟨a, c, rfl⟩ := own_slice ho
    exact ⟨⟨a, c, rfl⟩, hb⟩
  have HTh : Hid (∀ W, Bl W (.slice a n cp) bs → w.heap.size ≤ W.heap.size → Below w.heap.size w W → Calls Try.prog 14 #[.slice a n cp] W fun e w' => (∃ a2 c2, e = .returned (.slice a2 n c2) ∧ Blt w' (.slice a2 n c2) bs ∧ ∀ W', Below w'.heap.size w' W' → NoI w W.heap.size (.slice a2 n c2) n 0 0 W') ∧ Below W.heap.size W w') := Lib.hid fun W hB hs hw => by
    refine (Theirs_any _ bs W hB (by omega)).mono ?_
    rintro e w' ⟨⟨v, rfl, ho⟩, hb⟩
    have hl := Blt.of_own ho Hok.out
    obtain ⟨a2, c2, rfl⟩ := hl.shape
    rw [Hn.out] at hl ho ⊢
    refine ⟨⟨a2, c2, rfl, hl, fun W' hW => ⟨bs, Hn.out, Hok.out, own_below ho hW, fun i hi => absurd hi (by omega), fun b _ i hi => absurd hi (by omega), hs, (hw.trans (hb.mono hs)).trans (hW.mono (Nat.le_trans hs hb.size))⟩⟩, hb⟩
  clear hn hlen
  go_enter Try.func6, Try.ntmps6
  go_wp2_with (first
    | (go_at_call 8; refine (alive07_any _).mono ?_; rintro e w1 ⟨rfl, hb1⟩; have HB1 := Lib.hid hb1; have Hb1 := Lib.hid (Hb.out.below hb1); clear hb1)
    | (go_at_call 14; refine (HTh.out _ Hb1.out HB1.out.size HB1.out).mono ?_; rintro e w2 ⟨⟨a2, c2, rfl, hl2, hno⟩, hb2⟩
       have HL2 := Lib.hid hl2; have HNo := Lib.hid hno; have HB2 := Lib.hid (HB1.out.trans (hb2.mono HB1.out.size)); clear hl2 hno hb2; refine Hold.out ?_)
    | fail)
  refine ⟨?_⟩
  clear HTh Hb Hb1
  have Hcut : Hid (∀ W, Below w2.heap.size w2 W → NoI w w1.heap.size (.slice a2 n c2) n 0 0 W) := HNo
  rcases hcase with ⟨hp, he⟩ | ⟨hp, hq, he⟩ | ⟨hp, hq⟩
  case' inl =>
    have He := Lib.hid he; clear he
    go_wp2_with (first
      | (go_at_call 16; refine (HNd.out _ _ HL2.out He.out).mono ?_; rintro e w3 ⟨⟨a3, c3, rfl⟩, hb3⟩; have HB3 := Lib.hid hb3; clear hb3)
      | fail)
  case' inr.inl =>
    have He := Lib.hid he; clear he
    go_wp2_with (first
      | (go_at_call 16; refine (HNd.out _ _ HL2.out He.out).mono ?_; rintro e w3 ⟨⟨a3, c3, rfl⟩, hb3⟩; have HB3 := Lib.hid hb3; clear hb3)
      | fail)
  case' inr.inr =>
    go_wp2_with fail
    have HB3 : Hid (Below w2.heap.size w2 w2) := Below.refl _ _
  all_goals
    go_loopw [34] (fun x wr => ∃ k : Nat, k ≤ n ∧ x = .int .i64 k ∧ NoI w w1.heap.size (.slice a2 n c2) n k 0 wr) (fun x _ => n - (intOf x).toNat)
    case atStart => exact ⟨0, by omega, rfl, HNo.out _ HB3.out⟩
    case round =>
      obtain ⟨k, hk, rfl, hN⟩ := hrel
      have HN := Lib.hid hN; clear hN
      by_cases hlt : k < n
      · go_wp2_with fail
        go_loopw [37] (fun x wr => ∃ j : Nat, j ≤ 8 ∧ x = .int .i64 j ∧ NoI w w1.heap.size (.slice a2 n c2) n k j wr) (fun x _ => 8 - (intOf x).toNat)
        case atStart => exact ⟨0, by omega, rfl, HN.out⟩
        case round =>
          obtain ⟨j, hj, rfl, hN⟩ := hrel
          have HM := Lib.hid hN; clear hN HN
          by_cases hlj : j < 8
          · obtain ⟨g, cap, cs, x, hv, hA, hlen, hx, hne, hset⟩ := HM.out.step hlt hlj
            simp only [Value.slice.injEq] at hv
            obtain ⟨rfl, _, rfl⟩ := hv
            have HA := Lib.hid hA; have Hlen := Lib.hid hlen; have Hset := Lib.hid hset; have Hne := Lib.hid hne
            have c1 : wr.cell? ⟨g, k * 66 + 2 + j, none⟩ = some (.int .i64 x) := by rw [hA.cell]; exact hx
            have c2 : wr.cell? ⟨g, (k : Int).toNat * 66 + 2 + (j : Int).toNat, none⟩ = some (.int .i64 x) := c1
            clear hA hlen hx hne hset
            by_cases h1 : x = 1
            · subst h1
              go_wp2_with (first
                | (refine st_cell (v := .int .i64 2) rfl rfl rfl rfl rfl HA.out Hi1.out (by first | exact Hlen.out | (simpa using Hlen.out)) rfl ?_; intro w5 hu5; have HS5 := Lib.hid (Hset.out _ (by first | exact hu5 | (simpa using hu5))); clear hu5)
                | fail)
              exact ⟨⟨j + 1, by omega, by go_num, HS5.out⟩, by simp only [intOf]; omega⟩
            · have e1 : (x == 1) = false := by rw [beq_eq_false_iff_ne]; exact h1
              have HS5 := Lib.hid (Hne.out h1); clear h1
              go_wp2_with fail
              exact ⟨⟨j + 1, by omega, by go_num, HS5.out⟩, by simp only [intOf]; omega⟩
          · obtain rfl : j = 8 := by omega
            go_wp2_with fail
            exact ⟨⟨k + 1, by omega, by go_num, HM.out.next⟩, by simp only [intOf]; omega⟩
      · obtain rfl : k = n := by omega
        obtain ⟨bs', hl', hok', hB', hpls, hb'⟩ := HN.out.done
        have HBl := Lib.hid hB'; have Hpl := Lib.hid hpls; have Hok' := Lib.hid hok'; have HW := Lib.hid hb'
        have hl1000 : bs'.length ≤ 1000 := by omega
        have HL1 := Lib.hid hl1000
        clear hl' hok' hB' hpls hb' hl1000 HN
        go_wp2_with (first
          | (go_at_call 9; refine (find_any [] _ _ _ (.inl ⟨rfl, rfl⟩)).mono ?_; rintro e w6 ⟨rfl, hb6⟩; rw [show ∀ s, fz [] s = (Pz.zero, false) from fun _ => rfl]
             have HBl6 := Lib.hid (HBl.out.keep (keepB_below hb6)); have HW6 := Lib.hid (HW.out.trans (hb6.mono HW.out.size)); clear hb6)
          | (refine al_new rfl rfl (zero_pz _) ?_; intro w7 hn7
             have HP7 : Hid (At w7 w6.heap.size Pz.zero.cells 29) := Lib.hid hn7.to; have HN7 := Lib.hid (hn7.below (Nat.le_refl _)); clear hn7)
          | (refine st_agg rfl rfl rfl rfl HP7.out 9 Hi9.out (pz_len _) (Nat.le_refl 9) (pz_one _) ?_; intro w8 hu8
             have HN8 := Lib.hid (HN7.out.trans (hu8.below (Nat.le_refl _)))
             have HBl8 := Lib.hid (HBl6.out.keep (keepB_below HN8.out)); have HW8 := Lib.hid (HW6.out.trans (HN8.out.mono HW6.out.size)); clear hu8)
          | (go_at_call 13; refine (of_any _ bs' HL1.out _ HBl8.out).mono ?_; rintro e w9 ⟨⟨v9, t9, rfl, ht9, ho9⟩, hb9⟩
             rw [Hpl.out] at ht9
             obtain rfl := of_nil ht9
             obtain ⟨a9, c9, rfl⟩ := own_slice ho9
             rw [show ([] : List Pl).length = 0 from rfl]
             have HBl9 := Lib.hid (HBl8.out.keep (keepB_below hb9)); have HW9 := Lib.hid (HW8.out.trans (hb9.mono HW8.out.size)); clear hb9 ho9 ht9)
          | (go_at_call 15; refine (top_any _ bs' HL1.out _ HBl9.out).mono ?_; rintro e w10 ⟨rfl, hb10⟩
             rw [Hpl.out, show topOf [] = 0 from rfl]
             have HBl10 := Lib.hid (HBl9.out.keep (keepB_below hb10)); have HW10 := Lib.hid (HW9.out.trans (hb10.mono HW9.out.size)); clear hb10)
          | (go_at_call 16; refine (needed_any _ _ bs' HL1.out Hok'.out _ HBl10.out).mono ?_; rintro e w11 ⟨⟨v11, rfl, ho11⟩, hb11⟩
             rw [Hpl.out, show ∀ i, neededOf [] i [] = [] from fun _ => rfl] at ho11
             obtain ⟨a11, c11, rfl⟩ := own_slice ho11
             rw [show ([] : List Pl).length = 0 from rfl]
             have HW11 := Lib.hid (HW10.out.trans (hb11.mono HW10.out.size)); clear hb11 ho11)
          | fail)
        go_ret
        exact ⟨rfl, HW11.out⟩

set_option maxRecDepth 100000 in
theorem latestNone_far (a : Option Addr) (n cap : Nat) (i : Int) (w : World) (h : 12 < n) :
    Calls Try.prog 6 #[.slice a n cap, .int .i64 i] w fun e w' => e = .returned (.bool true) ∧ Below w.heap.size w w' := by
  have hd : decide ((12 : Int) < (n : Int)) = true := by rw [decide_eq_true_eq]; omega
  clear h
  go_enter Try.func6, Try.ntmps6
  go_wp2_with (first
    | (go_at_call 8; refine (alive07_any _).mono ?_; rintro e w1 ⟨rfl, hb1⟩; have HB1 := Lib.hid hb1; clear hb1)
    | fail)
  go_ret
  exact ⟨rfl, HB1.out⟩

namespace latestNone
set_option maxRecDepth 100000 in
theorem owed : Owed Try.prog 6 Try.f6 := by
  intro H enc W base args ds p hval hA
  rw [Try.params6] at hval hA
  obtain ⟨hl, _⟩ := trodAll_len _ _ _ _ hA
  obtain ⟨v0, v1, rfl⟩ : ∃ v0 v1, args = #[v0, v1] := by
    obtain ⟨l⟩ := args
    match l, hl with
    | [v0, v1], _ => exact ⟨v0, v1, rfl⟩
  obtain ⟨_, _, _, _, h0, r0⟩ := trodAll_head (v := v0) (vs := [v1]) hA
  obtain ⟨_, _, _, _, h1, r1⟩ := trodAll_head (v := v1) (vs := []) r0
  clear r1
  have hv0 := hval 0 41 v0 rfl rfl
  have hv1 := hval 1 3 v1 rfl rfl
  clear hval hA
  obtain ⟨i, rfl, hi⟩ := open_i64 Try.underlying3 hv1
  obtain ⟨a, cap, l, rfl, hlen, hes, hfit⟩ := open_flats (s := 66) Try.underlying41 fitB07n (by kernel_rfl) hv0 h0
  obtain ⟨bs, rfl, hok⟩ := fit_bks l hfit
  simp only [List.length_map] at hes hlen ⊢
  by_cases h12 : bs.length ≤ 12
  · exact latestNone_walk _ bs i W (bl_of_es hes hok) hok h12
  · exact latestNone_far a bs.length cap i W (by omega)

theorem own : ownKnob Try.prog.godebug = none := by kernel_rfl
theorem laidOut : laidOutB Try.prog = true := by kernel_rfl

set_option maxRecDepth 100000 in
theorem lifted (os : Os) (started : os.Started) (H : Type) (enc : TypeId × Value → H) :
    ReturnsInHanded {} Try.checked os 6 .any (Rows.latestNoneSpec.pre6 enc Try.prog Try.f6 Rows.latestNoneRow.domain false) (Rows.latestNoneSpec.post enc Try.prog Try.f6 false true false false) := by
  refine law_handed (C := Try.checked) (tb := 4) own started (by kernel_rfl) Try.func6
    (ChangeSpec.witness6 (enc := enc) (C := Try.checked) false ⟨#[], #[.slice none 0 0, .int .i64 0], []⟩ 8 (by kernel_rfl) (by kernel_rfl) (by kernel_rfl) (by kernel_rfl))
    rfl Try.underlying4 rfl ?_ laidOut (of_decide_eq_true (by kernel_rfl)) owed
  intro ds hl
  match ds, hl with
  | [a, b], _ => exact ⟨rfl, rfl, rfl⟩

theorem over : Rows.latestNoneRow.holds Try.pinned (OpenSpec.ofChange Rows.latestNoneSpec) :=
  OpenClaim.holds_of_wide 6 Try.f6 rfl rfl rfl rfl rfl rfl rfl ⟨rfl, rfl, rfl, rfl, rfl⟩ rfl rfl rfl rfl rfl (by kernel_rfl) Try.func6 (by kernel_rfl)
    (of_decide_eq_true (by kernel_rfl)) (by unfold Func.isWrapper; first | (rw [if_pos (by decide +kernel)]; kernel_rfl) | (rw [if_neg (by decide +kernel)]; exact ⟨rfl, rfl⟩))
    (fun os started H enc _ => lifted os started H enc)

theorem proved : Rows.LatestNoneSaid := over
end latestNone
#print axioms latestNone.proved
end Go.Proofs.Ytihlbfbplmehiaa
