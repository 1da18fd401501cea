/- Walks of the reference of package page: counts of heads, and what words are. -/
import Derived.Test.YtcgjppdjjhigoaaPageE
import Derived.Deep.RegionHeld3
namespace Go.Proofs.Ytcgjppdjjhigoaa
open Go.RowKit
set_option maxHeartbeats 1000000

theorem count_eq {x0 x1 x2 x3 : Int} : count [x0, x1, x2, x3] = if free [x0, x1, x2, x3] then (0, 0) else if header x1 = [x0, x1, x2, x3] then (x1, 1) else (0, 2) := by
  simp only [count, kind]
  by_cases hf : free [x0, x1, x2, x3] = true
  · simp [hf]
  · by_cases he : header x1 = [x0, x1, x2, x3]
    · simp [hf, he]
    · have he' : ¬ [x0, x1, x2, x3] = header x1 := fun e => he e.symm
      simp [hf, he, he']

theorem ref_count_any (u : Value) (l : List Int) (w : World) (hu : Sl w u l) : Calls Try.prog 24 #[u] w fun e w' => e = .returned (.tuple #[.int .u32 (count l).1, .int .i64 (count l).2]) ∧ Below w.heap.size w w' := by
  by_cases hl : l.length = 4
  case neg =>
    obtain ⟨a, c, rfl⟩ := hu.shape
    have hb : ((l.length : Int) != 4) = true := by simp; omega
    have hc : count l = (0, 2) := by unfold count; rw [if_pos hl]
    rw [hc]; clear hc hl
    go_enter Try.func24, Try.ntmps24
    go_wp2
    go_ret2
    exact ⟨rfl, Below.refl _ _⟩
  case pos =>
    obtain ⟨x0, x1, x2, x3, rfl⟩ := list4 hl
    have hr := hu.range x1 (by simp)
    obtain ⟨b, off, cap, rfl, hcap, hcap', hbw, hcell⟩ := hu.cells (by simp)
    have hx0 := hcell w (Below.refl _ _) 1 x1 rfl
    have Hc := Lib.hid hcell; clear hcell
    have Hct := Lib.hid (count_eq (x0 := x0) (x1 := x1) (x2 := x2) (x3 := x3))
    simp only [List.length_cons, List.length_nil, Nat.zero_add, Nat.reduceAdd] at hu hcap ⊢
    generalize hf : free [x0, x1, x2, x3] = f
    have Hf := Lib.hid hf; clear hf hl
    cases f
    · by_cases hk1 : header x1 = [x0, x1, x2, x3]
      · have hd : decide (header x1 = [x0, x1, x2, x3]) = true := by simpa using hk1
        clear hk1
        go_enter Try.func24, Try.ntmps24
        go_wp2_with fail
        refine (ref_free_any _ _ _ hu).mono ?_
        rintro e w1 ⟨rfl, rfl⟩
        rw [Hf.out]
        go_wp2_with fail
        refine (ref_header_any _ hr _).mono ?_
        rintro e w1 ⟨⟨v, rfl, hv⟩, hb1⟩
        have hx1 := Hc.out w1 hb1 1 x1 rfl
        go_wp2_with fail
        refine (ref_words_any _ _ _ _ _ hv.sl (hu.below hb1)).mono ?_
        rintro e w2 ⟨rfl, n, rfl⟩
        have Hd := Lib.hid hd; clear hd
        rw [Hd.out]
        go_wp2_with fail
        go_ret2
        refine ⟨?_, hb1.trans (below_drewN (Below.refl _ _) n)⟩
        rw [Hct.out, Hf.out]; have hdd := Hd.out; simp at hdd; simp [hdd]
      · have hd : decide (header x1 = [x0, x1, x2, x3]) = false := by simpa using hk1
        clear hk1
        go_enter Try.func24, Try.ntmps24
        go_wp2_with fail
        refine (ref_free_any _ _ _ hu).mono ?_
        rintro e w1 ⟨rfl, rfl⟩
        rw [Hf.out]
        go_wp2_with fail
        refine (ref_header_any _ hr _).mono ?_
        rintro e w1 ⟨⟨v, rfl, hv⟩, hb1⟩
        have hx1 := Hc.out w1 hb1 1 x1 rfl
        go_wp2_with fail
        refine (ref_words_any _ _ _ _ _ hv.sl (hu.below hb1)).mono ?_
        rintro e w2 ⟨rfl, n, rfl⟩
        have Hd := Lib.hid hd; clear hd
        rw [Hd.out]
        go_wp2_with fail
        go_ret2
        refine ⟨?_, hb1.trans (below_drewN (Below.refl _ _) n)⟩
        rw [Hct.out, Hf.out]; have hdd := Hd.out; simp at hdd; simp [hdd]
    · go_enter Try.func24, Try.ntmps24
      go_wp2_with fail
      refine (ref_free_any _ _ _ hu).mono ?_
      rintro e w1 ⟨rfl, rfl⟩
      rw [Hf.out]
      go_wp2_with fail
      go_ret2
      exact ⟨by rw [Hct.out, Hf.out]; simp, Below.refl _ _⟩

theorem rd_eq {x0 x1 x2 x3 x4 x5 x6 : Int} : rd [x0, x1, x2, x3, x4, x5, x6] = if free [x0, x1, x2, x3, x4, x5, x6] then (Pg.zero, 0) else if (cand [x0, x1, x2, x3, x4, x5, x6]).words = [x0, x1, x2, x3, x4, x5, x6] then (cand [x0, x1, x2, x3, x4, x5, x6], 1) else (Pg.zero, 2) := by
  simp only [rd, kind]
  by_cases hf : free [x0, x1, x2, x3, x4, x5, x6] = true
  · simp [hf]
  · by_cases he : (cand [x0, x1, x2, x3, x4, x5, x6]).words = [x0, x1, x2, x3, x4, x5, x6]
    · simp [hf, he]
    · have he' : ¬ [x0, x1, x2, x3, x4, x5, x6] = (cand [x0, x1, x2, x3, x4, x5, x6]).words := fun e => he e.symm
      simp [hf, he, he']

set_option maxHeartbeats 4000000 in
set_option maxRecDepth 100000 in
theorem ref_read_any (u : Value) (l : List Int) (w : World) (hu : Sl w u l) : Calls Try.prog 17 #[u] w fun e w' => e = .returned (.tuple #[(rd l).1.val, .int .i64 (rd l).2]) ∧ Below w.heap.size w w' := by
  by_cases hl : l.length = 7
  case neg =>
    obtain ⟨a, c, rfl⟩ := hu.shape
    have hb : ((l.length : Int) != 7) = true := by simp; omega
    have hc : rd l = (Pg.zero, 2) := by unfold rd; rw [if_pos hl]
    rw [hc]; clear hc hl
    go_enter Try.func17, Try.ntmps17
    go_wp2
    exact bodyPost_ret (v := .tuple #[.agg #[.int .u32 0, .int .u32 0, .bool false, .int .u32 0, .int .u32 0, .int .u32 0, .int .u32 0], .int .i64 2]) (by simp [results, Try.results17, go_sem]) rfl ⟨rfl, (Below.refl _ _).alloc (Nat.le_refl _) _⟩
  case pos =>
    obtain ⟨x0, x1, x2, x3, x4, x5, x6, rfl⟩ := list7 hl
    have hr := hu.range
    obtain ⟨b, off, cap, rfl, hcap, hcap', hbw, hcell⟩ := hu.cells (by simp)
    have Hc := Lib.hid hcell; clear hcell
    have Hu := Lib.hid hu
    simp only [List.length_cons, List.length_nil, Nat.zero_add, Nat.reduceAdd] at hu hcap Hu ⊢
    have hr0 : 0 ≤ x0 ∧ x0 < 4294967296 := hr x0 (by simp)
    obtain ⟨hr1, hr2⟩ := hr0
    have Hok : Hid (u32 (x0 % 2147483648) ∧ u32 x1 ∧ u32 x2 ∧ u32 x3 ∧ u32 x4 ∧ u32 x5) := by
      have e1 := hr x1 (by simp); have e2 := hr x2 (by simp); have e3 := hr x3 (by simp); have e4 := hr x4 (by simp); have e5 := hr x5 (by simp)
      have e0 : u32 (x0 % 2147483648) := by simp only [u32]; omega
      exact ⟨e0, e1, e2, e3, e4, e5⟩
    generalize hf : free [x0, x1, x2, x3, x4, x5, x6] = f
    have Hf := Lib.hid hf; clear hf hl hr
    have h0 := Hc.out w (Below.refl _ _) 0 x0 rfl
    have h1 := Hc.out w (Below.refl _ _) 1 x1 rfl
    have h2 := Hc.out w (Below.refl _ _) 2 x2 rfl
    have h3 := Hc.out w (Below.refl _ _) 3 x3 rfl
    have h4 := Hc.out w (Below.refl _ _) 4 x4 rfl
    have h5 := Hc.out w (Below.refl _ _) 5 x5 rfl
    simp only [Nat.add_zero] at h0
    cases f
    case true =>
      have Hrd : Hid (rd [x0, x1, x2, x3, x4, x5, x6] = (Pg.zero, 0)) := by unfold Hid; rw [rd_eq, Hf.out]; simp
      go_enter Try.func17, Try.ntmps17
      go_wp2_with fail
      refine (ref_free_any _ _ _ (hu.below ((Below.refl _ _).alloc (Nat.le_refl _) _))).mono ?_
      rintro e w' ⟨rfl, rfl⟩
      rw [Hf.out]
      go_wp2_with fail
      exact bodyPost_ret (v := .tuple #[.agg #[.int .u32 0, .int .u32 0, .bool false, .int .u32 0, .int .u32 0, .int .u32 0, .int .u32 0], .int .i64 0]) (by simp [results, Try.results17, go_sem]) rfl ⟨by rw [Hrd.out]; rfl, (Below.refl _ _).alloc (Nat.le_refl _) _⟩
    by_cases hx : 2147483648 ≤ x0
    · have hm : decide (2147483648 ≤ x0) = true := by simpa using hx
      have Hrd : Hid (rd [x0, x1, x2, x3, x4, x5, x6] = if (⟨x0 % 2147483648, x1, true, x2, x3, x4, x5⟩ : Pg).words = [x0, x1, x2, x3, x4, x5, x6] then (⟨x0 % 2147483648, x1, true, x2, x3, x4, x5⟩, 1) else (Pg.zero, 2)) := by
        have e : cand [x0, x1, x2, x3, x4, x5, x6] = ⟨x0 % 2147483648, x1, true, x2, x3, x4, x5⟩ := by simp [cand, hx]
        unfold Hid; rw [rd_eq, e, Hf.out]; simp
      have Hok' : Hid ((⟨x0 % 2147483648, x1, true, x2, x3, x4, x5⟩ : Pg).ok) := Hok.out
      have Hi : Hid ((Try.prog.info? 25).map (·.size) = some 7) := by unfold Hid; kernel_rfl
      cases hd : decide ((⟨x0 % 2147483648, x1, true, x2, x3, x4, x5⟩ : Pg).words = [x0, x1, x2, x3, x4, x5, x6])
      · have Hd := Lib.hid hd; clear hd
        go_enter Try.func17, Try.ntmps17
        go_wp2_with fail
        refine (ref_free_any _ _ _ (hu.below ((Below.refl _ _).alloc (Nat.le_refl _) _))).mono ?_
        rintro e w' ⟨rfl, rfl⟩
        rw [Hf.out]
        go_wp2_with fail
        go_region_held3 (fun w' => w'.cell? ⟨b, off, none⟩ = some (.int .u32 x0) ∧ w'.cell? ⟨b, off + 1, none⟩ = some (.int .u32 x1) ∧ w'.cell? ⟨b, off + 2, none⟩ = some (.int .u32 x2) ∧ w'.cell? ⟨b, off + 3, none⟩ = some (.int .u32 x3) ∧ w'.cell? ⟨b, off + 4, none⟩ = some (.int .u32 x4) ∧ w'.cell? ⟨b, off + 5, none⟩ = some (.int .u32 x5)) (go_keep) (fail)
        go_wp2_with fail
        refine (ref_page_words_any ⟨x0 % 2147483648, x1, true, x2, x3, x4, x5⟩ Hok'.out _).mono ?_
        rintro e w1 ⟨⟨v, rfl, hv⟩, hb1⟩
        have hsz := hb1.size
        have hA1 : At w1 (w.heap.size + 1) [.int .u32 (x0 % 2147483648), .int .u32 x1, .bool true, .int .u32 x2, .int .u32 x3, .int .u32 x4, .int .u32 x5] 25 := by
          have := hb1.block (w.heap.size + 1) (by simp)
          unfold At; rw [this]; exact hp_drew (hp_new (by simp))
        have hA0 : At w1 w.heap.size [.int .u32 0, .int .u32 0, .bool false, .int .u32 0, .int .u32 0, .int .u32 0, .int .u32 0] 25 := by
          have := hb1.block w.heap.size (by simp; omega)
          unfold At; rw [this]; exact hp_drew (hp_old (by simp) (hp_new rfl))
        simp at hsz
        have hbw' : Below w.heap.size w w1 := (((Below.refl _ _).alloc (Nat.le_refl _) _).drew.alloc (by simp) _).trans (hb1.mono (by simp; omega))
        have Hb := Lib.hid hbw'; clear hb1 hbw'
        go_wp2_with fail
        refine (ref_words_any _ _ _ _ _ hv.sl (Hu.out.below Hb.out)).mono ?_
        rintro e w2 ⟨rfl, n, rfl⟩
        rw [Hd.out]
        go_wp2_with (refine st_agg rfl rfl rfl rfl (hA0.drewN _) 7 Hi.out rfl (by simp) (by simp [Value.oneCell']) ?_; intro w3 hu3)
        refine bodyPost_ret (v := .tuple #[.agg #[.int .u32 0, .int .u32 0, .bool false, .int .u32 0, .int .u32 0, .int .u32 0, .int .u32 0], .int .i64 2]) ?_ rfl ⟨?_, (Hb.out.trans (below_drewN (Below.refl _ _) n)).trans (hu3.below (Nat.le_refl _))⟩
        · exact res_cell_tmp (p := 2) (q := 3) (ty := 25) rfl _ rfl hu3.to Try.underlying25 rfl 7 Hi.out rfl
        · rw [Hrd.out, if_neg (by simpa using Hd.out)]; rfl
      · have Hd := Lib.hid hd; clear hd
        go_enter Try.func17, Try.ntmps17
        go_wp2_with fail
        refine (ref_free_any _ _ _ (hu.below ((Below.refl _ _).alloc (Nat.le_refl _) _))).mono ?_
        rintro e w' ⟨rfl, rfl⟩
        rw [Hf.out]
        go_wp2_with fail
        go_region_held3 (fun w' => w'.cell? ⟨b, off, none⟩ = some (.int .u32 x0) ∧ w'.cell? ⟨b, off + 1, none⟩ = some (.int .u32 x1) ∧ w'.cell? ⟨b, off + 2, none⟩ = some (.int .u32 x2) ∧ w'.cell? ⟨b, off + 3, none⟩ = some (.int .u32 x3) ∧ w'.cell? ⟨b, off + 4, none⟩ = some (.int .u32 x4) ∧ w'.cell? ⟨b, off + 5, none⟩ = some (.int .u32 x5)) (go_keep) (fail)
        go_wp2_with fail
        refine (ref_page_words_any ⟨x0 % 2147483648, x1, true, x2, x3, x4, x5⟩ Hok'.out _).mono ?_
        rintro e w1 ⟨⟨v, rfl, hv⟩, hb1⟩
        have hsz := hb1.size
        have hA1 : At w1 (w.heap.size + 1) [.int .u32 (x0 % 2147483648), .int .u32 x1, .bool true, .int .u32 x2, .int .u32 x3, .int .u32 x4, .int .u32 x5] 25 := by
          have := hb1.block (w.heap.size + 1) (by simp)
          unfold At; rw [this]; exact hp_drew (hp_new (by simp))
        have hA0 : At w1 w.heap.size [.int .u32 0, .int .u32 0, .bool false, .int .u32 0, .int .u32 0, .int .u32 0, .int .u32 0] 25 := by
          have := hb1.block w.heap.size (by simp; omega)
          unfold At; rw [this]; exact hp_drew (hp_old (by simp) (hp_new rfl))
        simp at hsz
        have hbw' : Below w.heap.size w w1 := (((Below.refl _ _).alloc (Nat.le_refl _) _).drew.alloc (by simp) _).trans (hb1.mono (by simp; omega))
        have Hb := Lib.hid hbw'; clear hb1 hbw'
        go_wp2_with fail
        refine (ref_words_any _ _ _ _ _ hv.sl (Hu.out.below Hb.out)).mono ?_
        rintro e w2 ⟨rfl, n, rfl⟩
        rw [Hd.out]
        go_wp2_with (first | (refine ld_agg rfl rfl rfl (hA1.drewN _) Try.underlying25 rfl 7 Hi.out (by simp) ?_) | (refine st_agg rfl rfl rfl rfl (hA0.drewN _) 7 Hi.out rfl (by simp) (by simp [Value.oneCell']) ?_; intro w3 hu3))
        refine bodyPost_ret (v := .tuple #[.agg #[.int .u32 (x0 % 2147483648), .int .u32 x1, .bool true, .int .u32 x2, .int .u32 x3, .int .u32 x4, .int .u32 x5], .int .i64 1]) ?_ rfl ⟨?_, (Hb.out.trans (below_drewN (Below.refl _ _) n)).trans (hu3.below (Nat.le_refl _))⟩
        · exact res_cell_tmp (p := 2) (q := 3) (ty := 25) rfl _ rfl hu3.to Try.underlying25 rfl 7 Hi.out rfl
        · rw [Hrd.out, if_pos (by simpa using Hd.out)]; rfl
    · have hm : decide (2147483648 ≤ x0) = false := by simpa using hx
      have Hrd : Hid (rd [x0, x1, x2, x3, x4, x5, x6] = if (⟨x0 % 2147483648, x1, false, x2, x3, x4, x5⟩ : Pg).words = [x0, x1, x2, x3, x4, x5, x6] then (⟨x0 % 2147483648, x1, false, x2, x3, x4, x5⟩, 1) else (Pg.zero, 2)) := by
        have e : cand [x0, x1, x2, x3, x4, x5, x6] = ⟨x0 % 2147483648, x1, false, x2, x3, x4, x5⟩ := by simp [cand, hx]
        unfold Hid; rw [rd_eq, e, Hf.out]; simp
      have Hok' : Hid ((⟨x0 % 2147483648, x1, false, x2, x3, x4, x5⟩ : Pg).ok) := Hok.out
      have Hi : Hid ((Try.prog.info? 25).map (·.size) = some 7) := by unfold Hid; kernel_rfl
      cases hd : decide ((⟨x0 % 2147483648, x1, false, x2, x3, x4, x5⟩ : Pg).words = [x0, x1, x2, x3, x4, x5, x6])
      · have Hd := Lib.hid hd; clear hd
        go_enter Try.func17, Try.ntmps17
        go_wp2_with fail
        refine (ref_free_any _ _ _ (hu.below ((Below.refl _ _).alloc (Nat.le_refl _) _))).mono ?_
        rintro e w' ⟨rfl, rfl⟩
        rw [Hf.out]
        go_wp2_with fail
        go_region_held3 (fun w' => w'.cell? ⟨b, off, none⟩ = some (.int .u32 x0) ∧ w'.cell? ⟨b, off + 1, none⟩ = some (.int .u32 x1) ∧ w'.cell? ⟨b, off + 2, none⟩ = some (.int .u32 x2) ∧ w'.cell? ⟨b, off + 3, none⟩ = some (.int .u32 x3) ∧ w'.cell? ⟨b, off + 4, none⟩ = some (.int .u32 x4) ∧ w'.cell? ⟨b, off + 5, none⟩ = some (.int .u32 x5)) (go_keep) (fail)
        go_wp2_with fail
        refine (ref_page_words_any ⟨x0 % 2147483648, x1, false, x2, x3, x4, x5⟩ Hok'.out _).mono ?_
        rintro e w1 ⟨⟨v, rfl, hv⟩, hb1⟩
        have hsz := hb1.size
        have hA1 : At w1 (w.heap.size + 1) [.int .u32 (x0 % 2147483648), .int .u32 x1, .bool false, .int .u32 x2, .int .u32 x3, .int .u32 x4, .int .u32 x5] 25 := by
          have := hb1.block (w.heap.size + 1) (by simp)
          unfold At; rw [this]; exact hp_drew (hp_new (by simp))
        have hA0 : At w1 w.heap.size [.int .u32 0, .int .u32 0, .bool false, .int .u32 0, .int .u32 0, .int .u32 0, .int .u32 0] 25 := by
          have := hb1.block w.heap.size (by simp; omega)
          unfold At; rw [this]; exact hp_drew (hp_old (by simp) (hp_new rfl))
        simp at hsz
        have hbw' : Below w.heap.size w w1 := (((Below.refl _ _).alloc (Nat.le_refl _) _).drew.alloc (by simp) _).trans (hb1.mono (by simp; omega))
        have Hb := Lib.hid hbw'; clear hb1 hbw'
        go_wp2_with fail
        refine (ref_words_any _ _ _ _ _ hv.sl (Hu.out.below Hb.out)).mono ?_
        rintro e w2 ⟨rfl, n, rfl⟩
        rw [Hd.out]
        go_wp2_with (refine st_agg rfl rfl rfl rfl (hA0.drewN _) 7 Hi.out rfl (by simp) (by simp [Value.oneCell']) ?_; intro w3 hu3)
        refine bodyPost_ret (v := .tuple #[.agg #[.int .u32 0, .int .u32 0, .bool false, .int .u32 0, .int .u32 0, .int .u32 0, .int .u32 0], .int .i64 2]) ?_ rfl ⟨?_, (Hb.out.trans (below_drewN (Below.refl _ _) n)).trans (hu3.below (Nat.le_refl _))⟩
        · exact res_cell_tmp (p := 2) (q := 3) (ty := 25) rfl _ rfl hu3.to Try.underlying25 rfl 7 Hi.out rfl
        · rw [Hrd.out, if_neg (by simpa using Hd.out)]; rfl
      · have Hd := Lib.hid hd; clear hd
        go_enter Try.func17, Try.ntmps17
        go_wp2_with fail
        refine (ref_free_any _ _ _ (hu.below ((Below.refl _ _).alloc (Nat.le_refl _) _))).mono ?_
        rintro e w' ⟨rfl, rfl⟩
        rw [Hf.out]
        go_wp2_with fail
        go_region_held3 (fun w' => w'.cell? ⟨b, off, none⟩ = some (.int .u32 x0) ∧ w'.cell? ⟨b, off + 1, none⟩ = some (.int .u32 x1) ∧ w'.cell? ⟨b, off + 2, none⟩ = some (.int .u32 x2) ∧ w'.cell? ⟨b, off + 3, none⟩ = some (.int .u32 x3) ∧ w'.cell? ⟨b, off + 4, none⟩ = some (.int .u32 x4) ∧ w'.cell? ⟨b, off + 5, none⟩ = some (.int .u32 x5)) (go_keep) (fail)
        go_wp2_with fail
        refine (ref_page_words_any ⟨x0 % 2147483648, x1, false, x2, x3, x4, x5⟩ Hok'.out _).mono ?_
        rintro e w1 ⟨⟨v, rfl, hv⟩, hb1⟩
        have hsz := hb1.size
        have hA1 : At w1 (w.heap.size + 1) [.int .u32 (x0 % 2147483648), .int .u32 x1, .bool false, .int .u32 x2, .int .u32 x3, .int .u32 x4, .int .u32 x5] 25 := by
          have := hb1.block (w.heap.size + 1) (by simp)
          unfold At; rw [this]; exact hp_drew (hp_new (by simp))
        have hA0 : At w1 w.heap.size [.int .u32 0, .int .u32 0, .bool false, .int .u32 0, .int .u32 0, .int .u32 0, .int .u32 0] 25 := by
          have := hb1.block w.heap.size (by simp; omega)
          unfold At; rw [this]; exact hp_drew (hp_old (by simp) (hp_new rfl))
        simp at hsz
        have hbw' : Below w.heap.size w w1 := (((Below.refl _ _).alloc (Nat.le_refl _) _).drew.alloc (by simp) _).trans (hb1.mono (by simp; omega))
        have Hb := Lib.hid hbw'; clear hb1 hbw'
        go_wp2_with fail
        refine (ref_words_any _ _ _ _ _ hv.sl (Hu.out.below Hb.out)).mono ?_
        rintro e w2 ⟨rfl, n, rfl⟩
        rw [Hd.out]
        go_wp2_with (first | (refine ld_agg rfl rfl rfl (hA1.drewN _) Try.underlying25 rfl 7 Hi.out (by simp) ?_) | (refine st_agg rfl rfl rfl rfl (hA0.drewN _) 7 Hi.out rfl (by simp) (by simp [Value.oneCell']) ?_; intro w3 hu3))
        refine bodyPost_ret (v := .tuple #[.agg #[.int .u32 (x0 % 2147483648), .int .u32 x1, .bool false, .int .u32 x2, .int .u32 x3, .int .u32 x4, .int .u32 x5], .int .i64 1]) ?_ rfl ⟨?_, (Hb.out.trans (below_drewN (Below.refl _ _) n)).trans (hu3.below (Nat.le_refl _))⟩
        · exact res_cell_tmp (p := 2) (q := 3) (ty := 25) rfl _ rfl hu3.to Try.underlying25 rfl 7 Hi.out rfl
        · rw [Hrd.out, if_pos (by simpa using Hd.out)]; rfl
end Go.Proofs.Ytcgjppdjjhigoaa
