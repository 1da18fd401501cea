/- Walks of layer 7's own words: the reference's Find, and both ways of copying places. -/
import Derived.Test.YtihlbfbplmehiaaLatJ
namespace Go.Proofs.Ytihlbfbplmehiaa
open Go.RowKit Go.Shelf
set_option maxHeartbeats 4000000

def pzCells (l : List Pz) : List Value := l.flatMap Pz.cells
theorem pzCells_len (l : List Pz) : (pzCells l).length = l.length * 9 := by
  unfold pzCells
  induction l with
  | nil => rfl
  | cons x l ih => rw [List.flatMap_cons, List.length_append, ih, pz_len, List.length_cons]; omega
theorem pzCells_take (l : List Pz) {k : Nat} {x : Pz} (hx : l[k]? = some x) : pzCells (l.take (k + 1)) = pzCells (l.take k) ++ x.cells := by
  have ht : l.take (k + 1) = l.take k ++ [x] := by rw [List.take_add_one, hx]; rfl
  rw [ht]; unfold pzCells; rw [List.flatMap_append]; simp
theorem pzCells_at {l : List Pz} {i : Nat} {x : Pz} (hx : l[i]? = some x) : ((pzCells l).drop (i * 9)).take 9 = x.cells := by
  unfold pzCells
  induction l generalizing i with
  | nil => cases hx
  | cons y l ih =>
    cases i with
    | zero =>
      simp only [List.getElem?_cons_zero, Option.some.injEq] at hx
      subst hx
      rw [List.flatMap_cons, Nat.zero_mul, List.drop_zero, ← pz_len y, List.take_left]
    | succ i =>
      rw [List.flatMap_cons, show (i + 1) * 9 = y.cells.length + i * 9 by rw [pz_len]; omega, List.drop_length_add_append]
      exact ih (by simpa using hx)
theorem plz_cells (x : Pl) : x.z.cells = x.cells := rfl
theorem plsCells_z (l : List Pl) : plsCells l = pzCells (l.map Pl.z) := by
  unfold plsCells pzCells
  rw [List.flatMap_map]; rfl
/-- places that the call owns, as places -/
theorem es_own {w : World} {base : Nat} {e : TypeId} {v : Value} {n : Nat} {zs : List Pz} (h : w.ownsRow base e 9 v n (pzCells zs)) (hn : zs.length = n) : Es 9 w v (zs.map Pz.cells) := by
  subst hn
  rcases h.2 with ⟨rfl, h0⟩ | ⟨g, cap, cur, rfl, hb, hg, hn, hm, _, ht⟩
  · exact .inl ⟨rfl, by rw [List.length_eq_zero_iff.1 h0]; rfl⟩
  · refine .inr ⟨g, 0, cap, by rw [List.length_map], by rw [List.length_map]; exact hn, by simp only [maxLen] at hm; omega, (Array.getElem?_eq_some_iff.1 hg).1, ?_⟩
    intro i x hx j u hu
    rw [List.getElem?_map] at hx
    obtain ⟨z, hz, rfl⟩ := Option.map_eq_some_iff.1 hx
    have hi : i < zs.length := (List.getElem?_eq_some_iff.1 hz).1
    have hj : j < 9 := by have := (List.getElem?_eq_some_iff.1 hu).1; rwa [pz_len] at this
    have h1 := World.ownsRow.cellAt h (9 * i + j) (by omega)
    rw [Nat.zero_add, show i * 9 + j = 9 * i + j by omega, h1, ← hu, ← pzCells_at hz, List.getElem?_take, if_pos hj, List.getElem?_drop, Nat.mul_comm]

theorem zero_refP (w : World) : (zeroValue 36).run Try.prog w = .ok (.agg Pz.zero.cells.toArray) w := by
  have h : (Try.prog.info? 36).bind (·.zero) = some (.agg Pz.zero.cells.toArray) := by kernel_rfl
  unfold zeroValue typeInfo
  cases hq : Try.prog.info? 36 with
  | none => rw [hq] at h; cases h
  | some i =>
    rw [hq] at h
    simp only [Option.bind_some] at h
    simp [hq, h]
theorem zero_latP (w : World) : (zeroValue 29).run Try.prog w = .ok (.agg Pz.zero.cells.toArray) w := zero_place w

theorem built_theirs (z : Pz) : Try.prog.built 29 [(0, .int .i64 z.b), (1, .int .i64 z.k), (2, .agg z.p.cells.toArray)] = some z.cells.toArray := by
  kernel_rfl
set_option maxRecDepth 100000 in
theorem theirs_any (v : Value) (zs : List Pz) (w : World) (he : Es 9 w v (zs.map Pz.cells)) (hlen : zs.length ≤ 100000) :
    Calls Try.prog 10 #[v] w fun e w' => (∃ r, e = .returned r ∧ w'.ownsRow w.heap.size 29 9 r zs.length (pzCells zs)) ∧ Below w.heap.size w w' := by
  have Hi9 : Hid ((Try.prog.info? 36).map (·.size) = some 9) := by unfold Hid; kernel_rfl
  have Hj9 : Hid ((Try.prog.info? 29).map (·.size) = some 9) := by unfold Hid; kernel_rfl
  have Hi7 : Hid ((Try.prog.info? 34).map (·.size) = some 7) := by unfold Hid; kernel_rfl
  have HE := Lib.hid he
  obtain ⟨a, cp, rfl⟩ := he.shape
  rw [List.length_map] at HE ⊢
  clear he
  go_enter Try.func10, Try.ntmps10
  go_wp2_with fail
  go_loopw [3, 5, 8] (fun o _ i wr => ∃ k : Nat, k ≤ zs.length ∧ i = .int .i64 k ∧ wr.ownsRow w.heap.size 29 9 o k (pzCells (zs.take k)) ∧ Below w.heap.size w wr) (fun _ _ i _ => zs.length - (intOf i).toNat)
  case atStart => exact ⟨0, by omega, rfl, ownsRow_nil _ _ _ _, Below.refl _ _⟩
  case round =>
    obtain ⟨wo, rfl⟩ : ∃ wo : World, wo = wr := ⟨_, rfl⟩
    obtain ⟨k, hk, rfl, ho, hB⟩ := hrel
    have HO := Lib.hid ho; have HB := Lib.hid hB; clear ho hB
    by_cases hlt : k < zs.length
    · obtain ⟨x, hx⟩ : ∃ x, zs[k]? = some x := ⟨_, List.getElem?_eq_getElem hlt⟩
      have Hst := Lib.hid (pzCells_take zs hx)
      obtain ⟨b, off, cap, hv, hbw, hrg⟩ := HE.out.elem (i := k) (x := x.cells) (by rw [List.getElem?_map, hx]; rfl)
      rw [List.length_map] at hv
      simp only [Value.slice.injEq] at hv
      obtain ⟨rfl, _, rfl⟩ := hv
      have Hrg := Lib.hid (hrg wo HB.out); clear hrg hx
      have HR := Lib.hid (Rn.start HO.out HB.out); clear HO HB
      go_wp2_with (first
        | (refine wpList_load_mid rfl _ _ rfl _ _ rfl _ _ Hrg.out Try.underlying36 rfl Hi9.out ?_)
        | (refine al_new rfl rfl (zero_refP _) ?_; intro w1 hn1
           have HA1 : Hid (At w1 wo.heap.size Pz.zero.cells 36) := Lib.hid hn1.to; have HR1 := Lib.hid (HR.out.new hn1); clear hn1 HR)
        | (refine st_agg rfl rfl rfl rfl HA1.out 9 Hi9.out (pz_len _) (Nat.le_refl 9) (pz_one _) ?_; intro w2 hu2
           have HA2 : Hid (At w2 wo.heap.size x.cells 36) := Lib.hid hu2.to
           have HR2 := Lib.hid (HR1.out.upd hu2 (Nat.le_refl _))
           have hc0 : w2.cell? ⟨wo.heap.size, 0, none⟩ = some (.int .i64 x.b) := HA2.out.cell 0
           have hc1 : w2.cell? ⟨wo.heap.size, 1, none⟩ = some (.int .i64 x.k) := HA2.out.cell 1
           clear hu2 HR1 HA1)
        | (refine ld_agg rfl rfl rfl HA2.out Try.underlying34 rfl 7 Hi7.out (Nat.le_refl 9) ?_; rw [show (x.cells.drop 2).take 7 = x.p.cells from rfl])
        | (refine bd_run rfl rfl rfl (built_theirs _) ?_; clear hc0 hc1)
        | (refine bs_one rfl rfl rfl Try.underlying32 9 (pz_len _) Hj9.out (by kernel_rfl) (by decide) (by decide) ?_; intro w8 hn8
           have HR8 := Lib.hid (HR2.out.new hn8); have HP8 : Hid (At w8 w2.heap.size x.cells 29) := Lib.hid hn8.to; clear hn8)
        | (refine ap_one rfl _ _ _ rfl (bytes := 48) Try.underlying32 Hj9.out (by kernel_rfl) (by kernel_rfl) (by decide) rfl HR8.out.own rfl HP8.out (pz_len _) (pz_one _) (by unfold maxLen; omega) (by omega) HR8.out.below.size ?_; intro v9 w9 ho9 hg9
           have HO9 : Hid (w9.ownsRow w.heap.size 29 9 v9 (k + 1) (pzCells (zs.take (k + 1)))) := Lib.hid (by rw [Hst.out]; exact ho9)
           have HB9 := Lib.hid (HR8.out.below.grown hg9 HR8.out.below.size (fun j e => own_base HR8.out.own j e)); clear ho9 hg9)
        | fail)
      exact ⟨⟨k + 1, by omega, by go_num, HO9.out, HB9.out⟩, by simp only [intOf]; omega⟩
    · obtain rfl : k = zs.length := by omega
      go_wp2_with fail
      go_ret
      exact ⟨⟨_, rfl, by have h := HO.out; rw [List.take_length] at h; exact h⟩, HB.out⟩
theorem built_ours (z : Pz) : Try.prog.built 36 [(0, .int .i64 z.b), (1, .int .i64 z.k), (2, .agg z.p.cells.toArray)] = some z.cells.toArray := by
  kernel_rfl
set_option maxRecDepth 100000 in
theorem ours_any (v : Value) (zs : List Pz) (w : World) (he : Es 9 w v (zs.map Pz.cells)) (hlen : zs.length ≤ 100000) :
    Calls Try.prog 12 #[v] w fun e w' => (∃ r, e = .returned r ∧ w'.ownsRow w.heap.size 36 9 r zs.length (pzCells zs)) ∧ Below w.heap.size w w' := by
  have Hi9 : Hid ((Try.prog.info? 29).map (·.size) = some 9) := by unfold Hid; kernel_rfl
  have Hj9 : Hid ((Try.prog.info? 36).map (·.size) = some 9) := by unfold Hid; kernel_rfl
  have Hi7 : Hid ((Try.prog.info? 27).map (·.size) = some 7) := by unfold Hid; kernel_rfl
  have HE := Lib.hid he
  obtain ⟨a, cp, rfl⟩ := he.shape
  rw [List.length_map] at HE ⊢
  clear he
  go_enter Try.func12, Try.ntmps12
  go_wp2_with fail
  go_loopw [3, 5, 8] (fun o _ i wr => ∃ k : Nat, k ≤ zs.length ∧ i = .int .i64 k ∧ wr.ownsRow w.heap.size 36 9 o k (pzCells (zs.take k)) ∧ Below w.heap.size w wr) (fun _ _ i _ => zs.length - (intOf i).toNat)
  case atStart => exact ⟨0, by omega, rfl, ownsRow_nil _ _ _ _, Below.refl _ _⟩
  case round =>
    obtain ⟨wo, rfl⟩ : ∃ wo : World, wo = wr := ⟨_, rfl⟩
    obtain ⟨k, hk, rfl, ho, hB⟩ := hrel
    have HO := Lib.hid ho; have HB := Lib.hid hB; clear ho hB
    by_cases hlt : k < zs.length
    · obtain ⟨x, hx⟩ : ∃ x, zs[k]? = some x := ⟨_, List.getElem?_eq_getElem hlt⟩
      have Hst := Lib.hid (pzCells_take zs hx)
      obtain ⟨b, off, cap, hv, hbw, hrg⟩ := HE.out.elem (i := k) (x := x.cells) (by rw [List.getElem?_map, hx]; rfl)
      rw [List.length_map] at hv
      simp only [Value.slice.injEq] at hv
      obtain ⟨rfl, _, rfl⟩ := hv
      have Hrg := Lib.hid (hrg wo HB.out); clear hrg hx
      have HR := Lib.hid (Rn.start HO.out HB.out); clear HO HB
      go_wp2_with (first
        | (refine wpList_load_mid rfl _ _ rfl _ _ rfl _ _ Hrg.out Try.underlying29 rfl Hi9.out ?_)
        | (refine al_new rfl rfl (zero_latP _) ?_; intro w1 hn1
           have HA1 : Hid (At w1 wo.heap.size Pz.zero.cells 29) := Lib.hid hn1.to; have HR1 := Lib.hid (HR.out.new hn1); clear hn1 HR)
        | (refine st_agg rfl rfl rfl rfl HA1.out 9 Hi9.out (pz_len _) (Nat.le_refl 9) (pz_one _) ?_; intro w2 hu2
           have HA2 : Hid (At w2 wo.heap.size x.cells 29) := Lib.hid hu2.to
           have HR2 := Lib.hid (HR1.out.upd hu2 (Nat.le_refl _))
           have hc0 : w2.cell? ⟨wo.heap.size, 0, none⟩ = some (.int .i64 x.b) := HA2.out.cell 0
           have hc1 : w2.cell? ⟨wo.heap.size, 1, none⟩ = some (.int .i64 x.k) := HA2.out.cell 1
           clear hu2 HR1 HA1)
        | (refine ld_agg rfl rfl rfl HA2.out Try.underlying27 rfl 7 Hi7.out (Nat.le_refl 9) ?_; rw [show (x.cells.drop 2).take 7 = x.p.cells from rfl])
        | (refine bd_run rfl rfl rfl (built_ours _) ?_; clear hc0 hc1)
        | (refine bs_one rfl rfl rfl Try.underlying22 9 (pz_len _) Hj9.out (by kernel_rfl) (by decide) (by decide) ?_; intro w8 hn8
           have HR8 := Lib.hid (HR2.out.new hn8); have HP8 : Hid (At w8 w2.heap.size x.cells 36) := Lib.hid hn8.to; clear hn8)
        | (refine ap_one rfl _ _ _ rfl (bytes := 48) Try.underlying22 Hj9.out (by kernel_rfl) (by kernel_rfl) (by decide) rfl HR8.out.own rfl HP8.out (pz_len _) (pz_one _) (by unfold maxLen; omega) (by omega) HR8.out.below.size ?_; intro v9 w9 ho9 hg9
           have HO9 : Hid (w9.ownsRow w.heap.size 36 9 v9 (k + 1) (pzCells (zs.take (k + 1)))) := Lib.hid (by rw [Hst.out]; exact ho9)
           have HB9 := Lib.hid (HR8.out.below.grown hg9 HR8.out.below.size (fun j e => own_base HR8.out.own j e)); clear ho9 hg9)
        | fail)
      exact ⟨⟨k + 1, by omega, by go_num, HO9.out, HB9.out⟩, by simp only [intOf]; omega⟩
    · obtain rfl : k = zs.length := by omega
      go_wp2_with fail
      go_ret
      exact ⟨⟨_, rfl, by have h := HO.out; rw [List.take_length] at h; exact h⟩, HB.out⟩

theorem fz_pre (zs : List Pz) (s : Int) {k : Nat} {x : Pz} (h : ∀ j < k, ∀ y, zs[j]? = some y → y.p.s ≠ s) (hx : zs[k]? = some x) (hs : x.p.s = s) : fz zs s = (x, true) := by
  have : zs.find? (fun x => x.p.s == s) = some x := by
    induction zs generalizing k with
    | nil => cases hx
    | cons y zs ih =>
      cases k with
      | zero =>
        simp only [List.getElem?_cons_zero, Option.some.injEq] at hx
        subst hx
        simp [hs]
      | succ k =>
        have h0 := h 0 (by omega) y rfl
        have : (y.p.s == s) = false := by rw [beq_eq_false_iff_ne]; exact h0
        rw [List.find?_cons, this]
        exact ih (k := k) (fun j hj z hz => h (j + 1) (by omega) z (by simpa using hz)) (by simpa using hx)
  unfold fz
  rw [this]
theorem fz_none (zs : List Pz) (s : Int) (h : ∀ j < zs.length, ∀ y, zs[j]? = some y → y.p.s ≠ s) : fz zs s = (Pz.zero, false) := by
  have : zs.find? (fun x => x.p.s == s) = none := by
    rw [List.find?_eq_none]
    intro x hx hq
    obtain ⟨j, hj⟩ := List.getElem?_of_mem hx
    exact h j (List.getElem?_eq_some_iff.1 hj).1 x hj (by simpa using hq)
  unfold fz
  rw [this]
theorem built_ref0 : Try.prog.built 36 [] = some Pz.zero.cells.toArray := by kernel_rfl
set_option maxRecDepth 100000 in
theorem refFind_any (zs : List Pz) (s : Int) (v : Value) (w : World) (he : Es 9 w v (zs.map Pz.cells)) (hlen : zs.length ≤ 100000) :
    Calls Try.prog 11 #[v, .int .u32 s] w fun e w' => e = .returned (.tuple #[.agg (fz zs s).1.cells.toArray, .bool (fz zs s).2]) ∧ Below w.heap.size w w' := by
  have Hi9 : Hid ((Try.prog.info? 36).map (·.size) = some 9) := by unfold Hid; kernel_rfl
  have HE := Lib.hid he
  obtain ⟨a, cp, rfl⟩ := he.shape
  rw [List.length_map] at HE ⊢
  clear he
  go_enter Try.func11, Try.ntmps11
  go_wp2_with (first
    | (refine al_new rfl rfl (zero_refP _) ?_; intro w1 hn1
       have HA1 : Hid (At w1 w.heap.size Pz.zero.cells 36) := Lib.hid hn1.to; have HB1 := Lib.hid (hn1.below (Nat.le_refl _)); clear hn1)
    | fail)
  go_loopw [6] (fun i wr => ∃ k : Nat, k ≤ zs.length ∧ i = .int .i64 k ∧ wr = w1 ∧ ∀ j < k, ∀ y, zs[j]? = some y → y.p.s ≠ s) (fun i _ => zs.length - (intOf i).toNat)
  case atStart => exact ⟨0, by omega, rfl, rfl, fun j hj => absurd hj (by omega)⟩
  case round =>
    obtain ⟨k, hk, rfl, hW, hno⟩ := hrel
    subst hW
    have Hno := Lib.hid hno; clear hno
    by_cases hlt : k < zs.length
    · obtain ⟨x, hx⟩ : ∃ x, zs[k]? = some x := ⟨_, List.getElem?_eq_getElem hlt⟩
      obtain ⟨b, off, cap, hv, hbw, hrg⟩ := HE.out.elem (i := k) (x := x.cells) (by rw [List.getElem?_map, hx]; rfl)
      rw [List.length_map] at hv
      simp only [Value.slice.injEq] at hv
      obtain ⟨rfl, _, rfl⟩ := hv
      have Hrg := Lib.hid (hrg wr HB1.out); have Hx := Lib.hid hx; clear hrg hx
      have c2 : wr.cell? ⟨b, off + (k : Int).toNat * 9 + 2, none⟩ = some (.int .u32 x.p.s) := Hrg.out 2 _ rfl
      have c2' : wr.cell? ⟨b, off + k * 9 + 2, none⟩ = some (.int .u32 x.p.s) := Hrg.out 2 _ rfl
      by_cases hs : x.p.s = s
      · have Hfz := Lib.hid (fz_pre zs s Hno.out Hx.out hs)
        have e1 : (x.p.s == s) = true := by simp [hs]
        clear hs
        go_wp2_with (first
          | (refine ld_rng rfl rfl rfl Hrg.out Try.underlying36 rfl Hi9.out ?_)
          | (refine st_agg rfl rfl rfl rfl HA1.out 9 Hi9.out (pz_len _) (Nat.le_refl 9) (pz_one _) ?_; intro w4 hu4; have HU4 : Hid (At w4 w.heap.size x.cells 36) := Lib.hid hu4.to; have HB4 := Lib.hid (HB1.out.trans (hu4.below (Nat.le_refl _))); clear hu4)
          | fail)
        refine bodyPost_ret (res_cell_tmp (p := 4) (q := 5) (ty := 36) rfl _ rfl HU4.out Try.underlying36 rfl 9 Hi9.out (pz_len _)) rfl ⟨?_, HB4.out⟩
        rw [Hfz.out]; rfl
      · have e1 : (x.p.s == s) = false := by rw [beq_eq_false_iff_ne]; exact hs
        go_wp2_with fail
        refine ⟨⟨k + 1, by omega, by go_num, by trivial, ?_⟩, by simp only [intOf]; omega⟩
        intro j hj y hy
        by_cases hjk : j = k
        · subst hjk; rw [Hx.out] at hy; cases hy; exact hs
        · exact Hno.out j (by omega) y hy
    · obtain rfl : k = zs.length := by omega
      have Hfz := Lib.hid (fz_none zs s Hno.out)
      go_wp2_with (first
        | (refine bd_run rfl rfl rfl built_ref0 ?_)
        | (refine st_agg rfl rfl rfl rfl HA1.out 9 Hi9.out (pz_len _) (Nat.le_refl 9) (pz_one _) ?_; intro w4 hu4; have HU4 : Hid (At w4 w.heap.size Pz.zero.cells 36) := Lib.hid hu4.to; have HB4 := Lib.hid (HB1.out.trans (hu4.below (Nat.le_refl _))); clear hu4)
        | fail)
      refine bodyPost_ret (res_cell_tmp (p := 4) (q := 5) (ty := 36) rfl _ rfl HU4.out Try.underlying36 rfl 9 Hi9.out (pz_len _)) rfl ⟨?_, HB4.out⟩
      rw [Hfz.out]; rfl
end Go.Proofs.Ytihlbfbplmehiaa
