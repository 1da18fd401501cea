/- Walks of package page, and of its reference: what words are. -/
import Derived.Test.YtihlbfbplmehiaaPageD
import Derived.Test.YtihlbfbplmehiaaMem
namespace Go.Proofs.Ytihlbfbplmehiaa
open Go.RowKit
set_option maxHeartbeats 2000000

set_option maxRecDepth 100000 in
theorem ref_page_words_any (p : Pg) (hp : p.ok) (w : World) : Calls Try.prog 31 #[p.val] w fun e w' => (∃ v, e = .returned v ∧ Ow w.heap.size 23 w' v p.words) ∧ Below w.heap.size w w' := by
  have hr := ref_right_any p hp
  by_cases hrt : p.right = true
  case neg =>
    have hf : p.right = false := by simpa using hrt
    have hw : p.words = [] := by unfold Pg.words; rw [if_neg hrt]
    rw [hw]; clear hw hrt
    obtain ⟨s, q, g, a, b, c, d⟩ := p
    simp only [Pg.val] at hr ⊢
    have Hf := Lib.hid hf
    clear hp hf
    go_enter Try.func31, Try.ntmps31
    go_wp2_with fail
    refine (hr _).mono ?_
    rintro e w1 ⟨rfl, hb1⟩
    rw [Hf.out]
    have Hb1 := Lib.hid hb1; clear hb1 hr
    go_wp2_with fail
    go_ret
    exact ⟨⟨_, rfl, Ow.nil ..⟩, (((Below.refl _ _).alloc (Nat.le_refl _) _).trans (Hb1.out.mono (by simp)))⟩
  case pos =>
    have hw : p.words = [p.first, p.q, p.a, p.b, p.c, p.d, 1526644958] := by unfold Pg.words; rw [if_pos hrt]
    rw [hw]; clear hw
    obtain ⟨s, q, g, a, b, c, d⟩ := p
    simp only [Pg.val, Pg.first] at hr ⊢
    have Hf := Lib.hid hrt
    have Hp := Lib.hid hp
    obtain ⟨hs1, hs2⟩ : s < 512 ∧ 0 ≤ s := ⟨by simp [Pg.right] at hrt; exact hrt.1.1.1, hp.1.1⟩
    have Hrange : Hid (u32 q ∧ u32 a ∧ u32 b ∧ u32 c ∧ u32 d) := hp.2
    clear hp hrt
    cases g
    all_goals
      go_enter Try.func31, Try.ntmps31
      go_wp2_with fail
      refine (hr _).mono ?_
      rintro e w1 ⟨rfl, hb1⟩
      rw [Hf.out]
      have hsz := hb1.size
      have hc0 := hb1.cell (p := ⟨w.heap.size, 0, none⟩) (by simp)
      have hc1 := hb1.cell (p := ⟨w.heap.size, 1, none⟩) (by simp)
      have hc2 := hb1.cell (p := ⟨w.heap.size, 2, none⟩) (by simp)
      have hc3 := hb1.cell (p := ⟨w.heap.size, 3, none⟩) (by simp)
      have hc4 := hb1.cell (p := ⟨w.heap.size, 4, none⟩) (by simp)
      have hc5 := hb1.cell (p := ⟨w.heap.size, 5, none⟩) (by simp)
      have hc6 := hb1.cell (p := ⟨w.heap.size, 6, none⟩) (by simp)
      simp at hsz hc0 hc1 hc2 hc3 hc4 hc5 hc6
      have Hb1 := Lib.hid hb1; clear hb1 hr
      go_wp2_with fail
      go_ret
      refine ⟨⟨_, rfl, (Ow.of_block (l := [_, q, a, b, c, d, 1526644958]) (Nat.le_refl _) (heap_alloc_new _ _) (by simp) ?_).mono (by omega)⟩, ((Below.refl _ _).alloc (Nat.le_refl _) _).trans ((Hb1.out.mono (by simp)).trans (((Below.refl _ _).alloc (Nat.le_refl _) _).mono (by omega)))⟩
      have := Hrange.out
      simp only [u32] at this
      simp; omega

def Pg.zero : Pg := ⟨0, 0, false, 0, 0, 0, 0⟩
/-- the page that words would be -/
def cand (l : List Int) : Pg := ⟨l[0]?.getD 0 % 2147483648, l[1]?.getD 0, decide ((2147483648 : Int) ≤ l[0]?.getD 0), l[2]?.getD 0, l[3]?.getD 0, l[4]?.getD 0, l[5]?.getD 0⟩
def rd (l : List Int) : Pg × Int := if l.length ≠ 7 then (Pg.zero, 2) else if kind l (cand l).words 7 ≠ 1 then (Pg.zero, kind l (cand l).words 7) else (cand l, 1)

theorem nat_andNot (x : Nat) : x &&& 2147483647 = x % 2147483648 := Nat.and_two_pow_sub_one_eq_mod x 31
theorem andNot_gone (x : Int) (h : u32 x) : bits .andNot .u32 x 2147483648 = x % 2147483648 := by
  obtain ⟨h1, h2⟩ := h
  rw [u32_andNot x _ h1 h2 (by omega) (by omega)]
  have := nat_andNot x.toNat
  simp only [show (4294967295 - (2147483648 : Int).toNat : Nat) = 2147483647 from rfl, this]
  omega
theorem and_gone (x : Int) (h : u32 x) : bits .and .u32 x 2147483648 = if 2147483648 ≤ x then 2147483648 else 0 := by
  obtain ⟨h1, h2⟩ := h
  rw [u32_and x _ h1 h2 (by omega) (by omega)]
  have := nat_bit 31 x.toNat
  simp only [show (2147483648 : Int).toNat = 2 ^ 31 from rfl, this]
  split <;> omega

set_option maxRecDepth 100000 in
theorem read_any (u : Value) (l : List Int) (w : World) (hu : Sl w u l) : Calls Try.prog 41 #[u] w fun e w' => e = .returned (.tuple #[(rd l).1.val, .int .i64 (rd l).2]) ∧ Below w.heap.size w w' := by
  by_cases hl : l.length = 7
  case neg =>
    obtain ⟨a, c, rfl⟩ := hu.shape
    have hb : ((l.length : Int) != 7) = true := by simp; omega
    have hc : rd l = (Pg.zero, 2) := by unfold rd; rw [if_pos hl]
    rw [hc]; clear hc hl
    go_enter Try.func41, Try.ntmps41
    go_wp2
    exact bodyPost_ret (v := .tuple #[.agg #[.int .u32 0, .int .u32 0, .bool false, .int .u32 0, .int .u32 0, .int .u32 0, .int .u32 0], .int .i64 2]) (by simp [results, Try.results41, go_sem]) rfl ⟨rfl, (Below.refl _ _).alloc (Nat.le_refl _) _⟩
  case pos =>
    obtain ⟨x0, x1, x2, x3, x4, x5, x6, rfl⟩ := list7 hl
    have hr := hu.range
    obtain ⟨b, off, cap, rfl, hcap, hcap', hbw, hcell⟩ := hu.cells (by simp)
    have Hc := Lib.hid hcell; clear hcell
    have Hu := Lib.hid hu
    simp only [List.length_cons, List.length_nil, Nat.zero_add, Nat.reduceAdd] at hu hcap Hu ⊢
    have hr0 : u32 x0 := hr x0 (by simp)
    have han := andNot_gone x0 hr0
    have had := and_gone x0 hr0
    have Hok : Hid (cand [x0, x1, x2, x3, x4, x5, x6]).ok := by
      have e1 := hr x1 (by simp); have e2 := hr x2 (by simp); have e3 := hr x3 (by simp); have e4 := hr x4 (by simp); have e5 := hr x5 (by simp)
      have e0 : u32 (x0 % 2147483648) := by simp only [u32]; omega
      exact ⟨e0, e1, e2, e3, e4, e5⟩
    generalize hk : kind [x0, x1, x2, x3, x4, x5, x6] (cand [x0, x1, x2, x3, x4, x5, x6]).words 7 = k
    have Hk := Lib.hid hk; clear hk hl hu hr hr0
    have h0 := Hc.out w (Below.refl _ _) 0 x0 rfl
    have h1 := Hc.out w (Below.refl _ _) 1 x1 rfl
    have h2 := Hc.out w (Below.refl _ _) 2 x2 rfl
    have h3 := Hc.out w (Below.refl _ _) 3 x3 rfl
    have h4 := Hc.out w (Below.refl _ _) 4 x4 rfl
    have h5 := Hc.out w (Below.refl _ _) 5 x5 rfl
    simp only [Nat.add_zero] at h0
    have hnc : ¬ cap = 2 := by omega
    have harr : ∀ W : World, (Instr.arrayAt 25 (.slice (some ⟨b, off + 2, none⟩) 5 (cap - 2))).run Try.prog W = .ok (.pointer (some ⟨b, off + 2, none⟩)) W := fun W => by
      simp [Instr.arrayAt, run_underlying Try.underlying25]
    by_cases hx : 2147483648 ≤ x0
    · rw [if_pos hx] at had
      have Hc2 : Hid (cand [x0, x1, x2, x3, x4, x5, x6] = ⟨x0 % 2147483648, x1, true, x2, x3, x4, x5⟩) := by simp [cand, hx, Hid]
      have Hrd : Hid (rd [x0, x1, x2, x3, x4, x5, x6] = if k ≠ 1 then (Pg.zero, k) else (⟨x0 % 2147483648, x1, true, x2, x3, x4, x5⟩, 1)) := by
        unfold Hid rd; rw [if_neg (by simp), Hk.out, Hc2.out]
      have Hok' : Hid ((⟨x0 % 2147483648, x1, true, x2, x3, x4, x5⟩ : Pg).ok) := by rw [← Hc2.out]; exact Hok.out
      have Hk' : Hid (kind [x0, x1, x2, x3, x4, x5, x6] (⟨x0 % 2147483648, x1, true, x2, x3, x4, x5⟩ : Pg).words 7 = k) := by rw [← Hc2.out]; exact Hk.out
      clear Hk Hok Hc2
      have hi28 : (Try.prog.info? 27).map (·.size) = some 7 := by kernel_rfl
      have Hi := Lib.hid hi28; clear hi28
      by_cases hk1 : k = 1
      · have hb : (k != 1) = false := by simpa using hk1
        have Hk1 := Lib.hid hk1; clear hk1
        go_enter Try.func41, Try.ntmps41
        go_wp2_with fail
        go_region
        go_wp2_with fail
        refine (words_any ⟨x0 % 2147483648, x1, true, x2, x3, x4, x5⟩ Hok'.out _).mono ?_
        rintro e w1 ⟨⟨v, rfl, hv⟩, hb1⟩
        have hsz := hb1.size
        have hA1 : At w1 (w.heap.size + 1) [.int .u32 (x0 % 2147483648), .int .u32 x1, .bool true, .int .u32 x2, .int .u32 x3, .int .u32 x4, .int .u32 x5] 27 := by
          have := hb1.block (w.heap.size + 1) (by simp)
          unfold At; rw [this]; exact hp_drew (hp_new (by simp))
        have hA0 : At w1 w.heap.size [.int .u32 0, .int .u32 0, .bool false, .int .u32 0, .int .u32 0, .int .u32 0, .int .u32 0] 27 := by
          have := hb1.block w.heap.size (by simp; omega)
          unfold At; rw [this]; exact hp_drew (hp_old (by simp) (hp_new rfl))
        simp at hsz
        have hbw' : Below w.heap.size w w1 := (((Below.refl _ _).alloc (Nat.le_refl _) _).drew.alloc (by simp) _).trans (hb1.mono (by simp; omega))
        have Hb := Lib.hid hbw'; clear hb1 hbw'
        go_wp2_with fail
        refine (kind_any _ _ _ _ _ _ (Hu.out.below Hb.out) hv.sl).mono ?_
        rintro e w2 ⟨rfl, n, rfl⟩
        rw [Hk'.out]
        go_wp2_with (first | (refine ld_agg rfl rfl rfl (hA1.drewN _) Try.underlying27 rfl 7 Hi.out (by simp) ?_) | (refine st_agg rfl rfl rfl rfl (hA0.drewN _) 7 Hi.out rfl (by simp) (by simp [Value.oneCell']) ?_; intro w3 hu3))
        refine bodyPost_ret (v := .tuple #[.agg #[.int .u32 (x0 % 2147483648), .int .u32 x1, .bool true, .int .u32 x2, .int .u32 x3, .int .u32 x4, .int .u32 x5], .int .i64 k]) ?_ rfl ⟨?_, (Hb.out.trans (below_drewN (Below.refl _ _) n)).trans (hu3.below (Nat.le_refl _))⟩
        · exact res_cell_tmp (p := 2) (q := 3) (ty := 27) rfl _ rfl hu3.to Try.underlying27 rfl 7 Hi.out rfl
        · rw [Hrd.out, if_neg (by simpa using Hk1.out), Hk1.out]; rfl
      · have hb : (k != 1) = true := by simpa using hk1
        have Hk1 := Lib.hid hk1; clear hk1
        go_enter Try.func41, Try.ntmps41
        go_wp2_with fail
        go_region
        go_wp2_with fail
        refine (words_any ⟨x0 % 2147483648, x1, true, x2, x3, x4, x5⟩ Hok'.out _).mono ?_
        rintro e w1 ⟨⟨v, rfl, hv⟩, hb1⟩
        have hsz := hb1.size
        have hA1 : At w1 (w.heap.size + 1) [.int .u32 (x0 % 2147483648), .int .u32 x1, .bool true, .int .u32 x2, .int .u32 x3, .int .u32 x4, .int .u32 x5] 27 := by
          have := hb1.block (w.heap.size + 1) (by simp)
          unfold At; rw [this]; exact hp_drew (hp_new (by simp))
        have hA0 : At w1 w.heap.size [.int .u32 0, .int .u32 0, .bool false, .int .u32 0, .int .u32 0, .int .u32 0, .int .u32 0] 27 := by
          have := hb1.block w.heap.size (by simp; omega)
          unfold At; rw [this]; exact hp_drew (hp_old (by simp) (hp_new rfl))
        simp at hsz
        have hbw' : Below w.heap.size w w1 := (((Below.refl _ _).alloc (Nat.le_refl _) _).drew.alloc (by simp) _).trans (hb1.mono (by simp; omega))
        have Hb := Lib.hid hbw'; clear hb1 hbw'
        go_wp2_with fail
        refine (kind_any _ _ _ _ _ _ (Hu.out.below Hb.out) hv.sl).mono ?_
        rintro e w2 ⟨rfl, n, rfl⟩
        rw [Hk'.out]
        go_wp2_with (refine st_agg rfl rfl rfl rfl (hA0.drewN _) 7 Hi.out rfl (by simp) (by simp [Value.oneCell']) ?_; intro w3 hu3)
        refine bodyPost_ret (v := .tuple #[.agg #[.int .u32 0, .int .u32 0, .bool false, .int .u32 0, .int .u32 0, .int .u32 0, .int .u32 0], .int .i64 k]) ?_ rfl ⟨?_, (Hb.out.trans (below_drewN (Below.refl _ _) n)).trans (hu3.below (Nat.le_refl _))⟩
        · exact res_cell_tmp (p := 2) (q := 3) (ty := 27) rfl _ rfl hu3.to Try.underlying27 rfl 7 Hi.out rfl
        · rw [Hrd.out, if_pos (by simpa using Hk1.out)]; rfl
    · rw [if_neg hx] at had
      have Hc2 : Hid (cand [x0, x1, x2, x3, x4, x5, x6] = ⟨x0 % 2147483648, x1, false, x2, x3, x4, x5⟩) := by simp [cand, hx, Hid]
      have Hrd : Hid (rd [x0, x1, x2, x3, x4, x5, x6] = if k ≠ 1 then (Pg.zero, k) else (⟨x0 % 2147483648, x1, false, x2, x3, x4, x5⟩, 1)) := by
        unfold Hid rd; rw [if_neg (by simp), Hk.out, Hc2.out]
      have Hok' : Hid ((⟨x0 % 2147483648, x1, false, x2, x3, x4, x5⟩ : Pg).ok) := by rw [← Hc2.out]; exact Hok.out
      have Hk' : Hid (kind [x0, x1, x2, x3, x4, x5, x6] (⟨x0 % 2147483648, x1, false, x2, x3, x4, x5⟩ : Pg).words 7 = k) := by rw [← Hc2.out]; exact Hk.out
      clear Hk Hok Hc2
      have hi28 : (Try.prog.info? 27).map (·.size) = some 7 := by kernel_rfl
      have Hi := Lib.hid hi28; clear hi28
      by_cases hk1 : k = 1
      · have hb : (k != 1) = false := by simpa using hk1
        have Hk1 := Lib.hid hk1; clear hk1
        go_enter Try.func41, Try.ntmps41
        go_wp2_with fail
        go_region
        go_wp2_with fail
        refine (words_any ⟨x0 % 2147483648, x1, false, x2, x3, x4, x5⟩ Hok'.out _).mono ?_
        rintro e w1 ⟨⟨v, rfl, hv⟩, hb1⟩
        have hsz := hb1.size
        have hA1 : At w1 (w.heap.size + 1) [.int .u32 (x0 % 2147483648), .int .u32 x1, .bool false, .int .u32 x2, .int .u32 x3, .int .u32 x4, .int .u32 x5] 27 := by
          have := hb1.block (w.heap.size + 1) (by simp)
          unfold At; rw [this]; exact hp_drew (hp_new (by simp))
        have hA0 : At w1 w.heap.size [.int .u32 0, .int .u32 0, .bool false, .int .u32 0, .int .u32 0, .int .u32 0, .int .u32 0] 27 := by
          have := hb1.block w.heap.size (by simp; omega)
          unfold At; rw [this]; exact hp_drew (hp_old (by simp) (hp_new rfl))
        simp at hsz
        have hbw' : Below w.heap.size w w1 := (((Below.refl _ _).alloc (Nat.le_refl _) _).drew.alloc (by simp) _).trans (hb1.mono (by simp; omega))
        have Hb := Lib.hid hbw'; clear hb1 hbw'
        go_wp2_with fail
        refine (kind_any _ _ _ _ _ _ (Hu.out.below Hb.out) hv.sl).mono ?_
        rintro e w2 ⟨rfl, n, rfl⟩
        rw [Hk'.out]
        go_wp2_with (first | (refine ld_agg rfl rfl rfl (hA1.drewN _) Try.underlying27 rfl 7 Hi.out (by simp) ?_) | (refine st_agg rfl rfl rfl rfl (hA0.drewN _) 7 Hi.out rfl (by simp) (by simp [Value.oneCell']) ?_; intro w3 hu3))
        refine bodyPost_ret (v := .tuple #[.agg #[.int .u32 (x0 % 2147483648), .int .u32 x1, .bool false, .int .u32 x2, .int .u32 x3, .int .u32 x4, .int .u32 x5], .int .i64 k]) ?_ rfl ⟨?_, (Hb.out.trans (below_drewN (Below.refl _ _) n)).trans (hu3.below (Nat.le_refl _))⟩
        · exact res_cell_tmp (p := 2) (q := 3) (ty := 27) rfl _ rfl hu3.to Try.underlying27 rfl 7 Hi.out rfl
        · rw [Hrd.out, if_neg (by simpa using Hk1.out), Hk1.out]; rfl
      · have hb : (k != 1) = true := by simpa using hk1
        have Hk1 := Lib.hid hk1; clear hk1
        go_enter Try.func41, Try.ntmps41
        go_wp2_with fail
        go_region
        go_wp2_with fail
        refine (words_any ⟨x0 % 2147483648, x1, false, x2, x3, x4, x5⟩ Hok'.out _).mono ?_
        rintro e w1 ⟨⟨v, rfl, hv⟩, hb1⟩
        have hsz := hb1.size
        have hA1 : At w1 (w.heap.size + 1) [.int .u32 (x0 % 2147483648), .int .u32 x1, .bool false, .int .u32 x2, .int .u32 x3, .int .u32 x4, .int .u32 x5] 27 := by
          have := hb1.block (w.heap.size + 1) (by simp)
          unfold At; rw [this]; exact hp_drew (hp_new (by simp))
        have hA0 : At w1 w.heap.size [.int .u32 0, .int .u32 0, .bool false, .int .u32 0, .int .u32 0, .int .u32 0, .int .u32 0] 27 := by
          have := hb1.block w.heap.size (by simp; omega)
          unfold At; rw [this]; exact hp_drew (hp_old (by simp) (hp_new rfl))
        simp at hsz
        have hbw' : Below w.heap.size w w1 := (((Below.refl _ _).alloc (Nat.le_refl _) _).drew.alloc (by simp) _).trans (hb1.mono (by simp; omega))
        have Hb := Lib.hid hbw'; clear hb1 hbw'
        go_wp2_with fail
        refine (kind_any _ _ _ _ _ _ (Hu.out.below Hb.out) hv.sl).mono ?_
        rintro e w2 ⟨rfl, n, rfl⟩
        rw [Hk'.out]
        go_wp2_with (refine st_agg rfl rfl rfl rfl (hA0.drewN _) 7 Hi.out rfl (by simp) (by simp [Value.oneCell']) ?_; intro w3 hu3)
        refine bodyPost_ret (v := .tuple #[.agg #[.int .u32 0, .int .u32 0, .bool false, .int .u32 0, .int .u32 0, .int .u32 0, .int .u32 0], .int .i64 k]) ?_ rfl ⟨?_, (Hb.out.trans (below_drewN (Below.refl _ _) n)).trans (hu3.below (Nat.le_refl _))⟩
        · exact res_cell_tmp (p := 2) (q := 3) (ty := 27) rfl _ rfl hu3.to Try.underlying27 rfl 7 Hi.out rfl
        · rw [Hrd.out, if_pos (by simpa using Hk1.out)]; rfl
end Go.Proofs.Ytihlbfbplmehiaa
