/- Walks of the references 15 and 16: Word, wrong, Load. -/
import Derived.Test.YtfgipnohomdcoaaBusD
namespace Go.Proofs.Ytfgipnohomdcoaa
open Go.RowKit
set_option maxHeartbeats 4000000

theorem rpl_of_some {base t : Int} {n i : Nat} (h : memIdx base t n = some i) : rpl base t n = i := by unfold rpl; rw [h]
theorem rpl_of_none {base t : Int} {n : Nat} (h : memIdx base t n = none) : rpl base t n = -1 := by unfold rpl; rw [h]
theorem Sl.elem {w : World} {s : Value} {l : List Int} (h : Sl w s l) {i : Nat} (hi : i < l.length) : ∃ b off cap, s = .slice (some ⟨b, off, none⟩) l.length cap ∧ b < w.heap.size ∧ ∀ w', Below w.heap.size w w' → w'.cell? ⟨b, off + i, none⟩ = some (.int .u32 (l[i]?.getD 0)) := by
  rcases h with ⟨rfl, rfl⟩ | ⟨b, off, cap, h1, h2, h3, h4, h5, h6, h7⟩
  · simp at hi
  · exact ⟨b, off, cap, h1, h5, fun w' hb => (hb.cell (p := ⟨b, off + i, none⟩) h5).trans (h6 i hi)⟩
theorem bx_ng {P : Program} {ops : Array Oper} {rest : List Oper} {op : Oper} {a : Act} {w : World} {Q : Exit → Act → World → Prop} (hgd : op.guard = none) {ty : TypeId} {x : Operand} (ho : op.op = .box ty x) {v : Value} (hx : a.eval x = v)
    (h : ∀ w2, New w w2 (.cells v.cells ty) → wpList P ops Q rest (a.put op.dst (.pointer (some ⟨w.heap.size, 0, none⟩))) w2) : wpList P ops Q (op :: rest) a w :=
  bx_new (by unfold Region.wanted; rw [hgd]) ho hx h
theorem take2 {a b : Value} : (([a, b] : List Value).drop 0).take 2 = [a, b] := rfl

set_option maxRecDepth 100000 in
theorem rWord_any {base t : Int} {ws : List Int} {v : Value} (ht : 0 ≤ t ∧ t < 4294967296) (w : World) (h : RV w v base ws) :
    Calls Try.prog 23 #[v, .int .u32 t] w fun e w' => e = .returned (.tuple #[.int .u32 (wdAt base ws t).1, .bool (wdAt base ws t).2]) ∧ Below w.heap.size w w' := by
  have Hp : Hid (∀ W, Below w.heap.size w W → Calls Try.prog 32 #[v, .int .u64 t] W fun e w' => e = .returned (.int .i64 (rpl base t ws.length)) ∧ Below W.heap.size W w') := fun W hb => rplace_any ht W (h.below hb)
  obtain ⟨s, rfl, hs, hb, hl⟩ := h
  have Hi2 : Hid ((Try.prog.info? 25).map (·.size) = some 2) := by unfold Hid; kernel_rfl
  obtain ⟨ht1, ht2⟩ := ht
  obtain ⟨hb1, hb2⟩ := hb
  cases hm : memIdx base t ws.length with
  | none =>
    rw [rpl_of_none hm] at Hp
    rw [wdAt_none hm]
    clear hm hs
    go_enter Try.func23, Try.ntmps23
    go_wp2_with (first
      | (refine bx_ng rfl rfl rfl ?_; intro w2 hn2; have HN := Lib.hid (show At w2 w.heap.size [.int .u32 base, s] 25 from hn2.to); have HB := Lib.hid (hn2.below (Nat.le_refl _)); clear hn2)
      | (refine ld_agg rfl rfl rfl HN.out Try.underlying25 rfl 2 Hi2.out (Nat.le_refl 2) ?_; rw [take2])
      | (go_at_call 32; refine (Hp.out _ HB.out).mono ?_; rintro e w3 ⟨rfl, hb3⟩; have HB3 := Lib.hid (HB.out.trans (hb3.mono HB.out.size)); clear hb3)
      | fail)
    go_ret2
    exact ⟨rfl, HB3.out⟩
  | some i =>
    obtain ⟨_, _, _, _, hi⟩ := memIdx_some hm
    obtain ⟨b, off, cap, rfl, hbw, hc⟩ := hs.elem hi
    rw [rpl_of_some hm] at Hp
    rw [wdAt_some hm]
    obtain ⟨x, hx⟩ : ∃ x, ws[i]?.getD 0 = x := ⟨_, rfl⟩
    rw [hx] at hc ⊢
    obtain ⟨n, hn⟩ : ∃ n, ws.length = n := ⟨_, rfl⟩
    rw [hn] at hi hl Hp
    have Hc := Lib.hid hc
    rw [hn]
    clear hm hs hx hn hc
    go_enter Try.func23, Try.ntmps23
    go_wp2_with (first
      | (refine bx_ng rfl rfl rfl ?_; intro w2 hn2; have HN := Lib.hid (show At w2 w.heap.size [.int .u32 base, .slice (some ⟨b, off, none⟩) n cap] 25 from hn2.to); have HB := Lib.hid (hn2.below (Nat.le_refl _)); clear hn2)
      | (refine ld_agg rfl rfl rfl HN.out Try.underlying25 rfl 2 Hi2.out (Nat.le_refl 2) ?_; rw [take2])
      | (go_at_call 32; refine (Hp.out _ HB.out).mono ?_; rintro e w3 ⟨rfl, hb3⟩; have HB3 := Lib.hid (HB.out.trans (hb3.mono HB.out.size)); have c1 : w3.cell? ⟨w.heap.size, 1, none⟩ = some (.slice (some ⟨b, off, none⟩) n cap) := (HN.out.of_below hb3).cell 1; have ci := Hc.out _ HB3.out; clear hb3)
      | fail)
    go_ret2
    exact ⟨rfl, HB3.out⟩

theorem stS_bad {base : Int} {ws : List Int} {t sz : Int} (h : chk t sz ≠ 0) : stS base ws t sz = chk t sz := by unfold stS; rw [if_pos h]
theorem stS_is {base : Int} {ws : List Int} {t sz : Int} (h : chk t sz = 0) : stS base ws t sz = if (wdAt base ws (t - t % 4)).2 then 0 else 2 := by unfold stS; rw [if_neg (by omega)]

set_option maxRecDepth 100000 in
theorem rwrong_any {base t sz : Int} {ws : List Int} {v : Value} (ht : 0 ≤ t ∧ t < 4294967296) (w : World) (h : RV w v base ws) :
    Calls Try.prog 22 #[v, .int .u32 t, .int .i64 sz] w fun e w' => e = .returned (.int .i64 (stS base ws t sz)) ∧ Below w.heap.size w w' := by
  have Hw : Hid (∀ W, Below w.heap.size w W → Calls Try.prog 23 #[v, .int .u32 (t - t % 4)] W fun e w' => e = .returned (.tuple #[.int .u32 (wdAt base ws (t - t % 4)).1, .bool (wdAt base ws (t - t % 4)).2]) ∧ Below W.heap.size W w') := fun W hb => rWord_any (by omega) W (h.below hb)
  obtain ⟨s, rfl, hs, hb, hl⟩ := h
  clear hs
  have Hi2 : Hid ((Try.prog.info? 25).map (·.size) = some 2) := by unfold Hid; kernel_rfl
  obtain ⟨ht1, ht2⟩ := ht
  obtain ⟨hb1, hb2⟩ := hb
  by_cases h3 : sz ≠ 1 ∧ sz ≠ 2 ∧ sz ≠ 4
  · have hc : chk t sz = 2 := by unfold chk; rw [if_pos h3]
    rw [stS_bad (by rw [hc]; decide), hc]
    have b1 : (sz != 1) = true := by rw [bne_iff_ne]; exact h3.1
    have b2 : (sz != 2) = true := by rw [bne_iff_ne]; exact h3.2.1
    have b4 : (sz != 4) = true := by rw [bne_iff_ne]; exact h3.2.2
    clear hc h3
    go_enter Try.func22, Try.ntmps22
    go_wp2_with (first
      | (refine bx_ng rfl rfl rfl ?_; intro w2 hn2; have HN := Lib.hid (show At w2 w.heap.size [.int .u32 base, s] 25 from hn2.to); have HB := Lib.hid (hn2.below (Nat.le_refl _)); clear hn2)
      | (refine ld_agg rfl rfl rfl HN.out Try.underlying25 rfl 2 Hi2.out (Nat.le_refl 2) ?_; rw [take2])
      | (go_at_call 23; refine (Hw.out _ HB.out).mono ?_; rintro e w3 ⟨rfl, hb3⟩; have HB3 := Lib.hid (HB.out.trans (hb3.mono HB.out.size)); clear hb3)
      | fail)
    go_ret
    exact ⟨rfl, HB.out⟩
  · by_cases hz : chk t sz = 0
    · rw [stS_is hz]
      obtain ⟨⟨wd, is⟩, hwd⟩ : ∃ y, wdAt base ws (t - t % 4) = y := ⟨_, rfl⟩
      rw [hwd] at Hw ⊢
      have hm : t % sz = 0 := by
        unfold chk at hz
        rw [if_neg h3] at hz
        split at hz
        · cases hz
        · rename_i hh; exact Decidable.not_not.1 hh
      clear hz hwd
      have h31 : sz = 1 ∨ sz = 2 ∨ sz = 4 := by omega
      clear h3
      rcases h31 with rfl | rfl | rfl
      · clear hm
        cases is
        · skip
          go_enter Try.func22, Try.ntmps22
          go_wp2_with (first
          | (refine bx_ng rfl rfl rfl ?_; intro w2 hn2; have HN := Lib.hid (show At w2 w.heap.size [.int .u32 base, s] 25 from hn2.to); have HB := Lib.hid (hn2.below (Nat.le_refl _)); clear hn2)
          | (refine ld_agg rfl rfl rfl HN.out Try.underlying25 rfl 2 Hi2.out (Nat.le_refl 2) ?_; rw [take2])
          | (go_at_call 23; refine (Hw.out _ HB.out).mono ?_; rintro e w3 ⟨rfl, hb3⟩; have HB3 := Lib.hid (HB.out.trans (hb3.mono HB.out.size)); clear hb3)
          | fail)
          go_ret
          exact ⟨rfl, HB3.out⟩
        · skip
          go_enter Try.func22, Try.ntmps22
          go_wp2_with (first
          | (refine bx_ng rfl rfl rfl ?_; intro w2 hn2; have HN := Lib.hid (show At w2 w.heap.size [.int .u32 base, s] 25 from hn2.to); have HB := Lib.hid (hn2.below (Nat.le_refl _)); clear hn2)
          | (refine ld_agg rfl rfl rfl HN.out Try.underlying25 rfl 2 Hi2.out (Nat.le_refl 2) ?_; rw [take2])
          | (go_at_call 23; refine (Hw.out _ HB.out).mono ?_; rintro e w3 ⟨rfl, hb3⟩; have HB3 := Lib.hid (HB.out.trans (hb3.mono HB.out.size)); clear hb3)
          | fail)
          go_ret
          exact ⟨rfl, HB3.out⟩
      · have hb2 : (t % 2 != 0) = false := by rw [bne_eq_false_iff_eq]; exact hm
        clear hm
        cases is
        · skip
          go_enter Try.func22, Try.ntmps22
          go_wp2_with (first
          | (refine bx_ng rfl rfl rfl ?_; intro w2 hn2; have HN := Lib.hid (show At w2 w.heap.size [.int .u32 base, s] 25 from hn2.to); have HB := Lib.hid (hn2.below (Nat.le_refl _)); clear hn2)
          | (refine ld_agg rfl rfl rfl HN.out Try.underlying25 rfl 2 Hi2.out (Nat.le_refl 2) ?_; rw [take2])
          | (go_at_call 23; refine (Hw.out _ HB.out).mono ?_; rintro e w3 ⟨rfl, hb3⟩; have HB3 := Lib.hid (HB.out.trans (hb3.mono HB.out.size)); clear hb3)
          | fail)
          go_ret
          exact ⟨rfl, HB3.out⟩
        · skip
          go_enter Try.func22, Try.ntmps22
          go_wp2_with (first
          | (refine bx_ng rfl rfl rfl ?_; intro w2 hn2; have HN := Lib.hid (show At w2 w.heap.size [.int .u32 base, s] 25 from hn2.to); have HB := Lib.hid (hn2.below (Nat.le_refl _)); clear hn2)
          | (refine ld_agg rfl rfl rfl HN.out Try.underlying25 rfl 2 Hi2.out (Nat.le_refl 2) ?_; rw [take2])
          | (go_at_call 23; refine (Hw.out _ HB.out).mono ?_; rintro e w3 ⟨rfl, hb3⟩; have HB3 := Lib.hid (HB.out.trans (hb3.mono HB.out.size)); clear hb3)
          | fail)
          go_ret
          exact ⟨rfl, HB3.out⟩
      · have hb2 : (t % 4 != 0) = false := by rw [bne_eq_false_iff_eq]; exact hm
        clear hm
        cases is
        · skip
          go_enter Try.func22, Try.ntmps22
          go_wp2_with (first
          | (refine bx_ng rfl rfl rfl ?_; intro w2 hn2; have HN := Lib.hid (show At w2 w.heap.size [.int .u32 base, s] 25 from hn2.to); have HB := Lib.hid (hn2.below (Nat.le_refl _)); clear hn2)
          | (refine ld_agg rfl rfl rfl HN.out Try.underlying25 rfl 2 Hi2.out (Nat.le_refl 2) ?_; rw [take2])
          | (go_at_call 23; refine (Hw.out _ HB.out).mono ?_; rintro e w3 ⟨rfl, hb3⟩; have HB3 := Lib.hid (HB.out.trans (hb3.mono HB.out.size)); clear hb3)
          | fail)
          go_ret
          exact ⟨rfl, HB3.out⟩
        · skip
          go_enter Try.func22, Try.ntmps22
          go_wp2_with (first
          | (refine bx_ng rfl rfl rfl ?_; intro w2 hn2; have HN := Lib.hid (show At w2 w.heap.size [.int .u32 base, s] 25 from hn2.to); have HB := Lib.hid (hn2.below (Nat.le_refl _)); clear hn2)
          | (refine ld_agg rfl rfl rfl HN.out Try.underlying25 rfl 2 Hi2.out (Nat.le_refl 2) ?_; rw [take2])
          | (go_at_call 23; refine (Hw.out _ HB.out).mono ?_; rintro e w3 ⟨rfl, hb3⟩; have HB3 := Lib.hid (HB.out.trans (hb3.mono HB.out.size)); clear hb3)
          | fail)
          go_ret
          exact ⟨rfl, HB3.out⟩
    · rw [stS_bad hz]
      have hm : chk t sz = 1 ∧ t % sz ≠ 0 := by
        unfold chk at hz ⊢
        rw [if_neg h3] at hz ⊢
        split at hz
        · rename_i hh; exact ⟨if_pos hh, hh⟩
        · exact absurd rfl hz
      rw [hm.1]
      have h31 : sz = 1 ∨ sz = 2 ∨ sz = 4 := by omega
      have hm := hm.2
      clear h3 hz
      rcases h31 with rfl | rfl | rfl
      · exact absurd (Int.emod_one t) hm
      · have hb2 : (t % 2 != 0) = true := by rw [bne_iff_ne]; exact hm
        clear hm
        go_enter Try.func22, Try.ntmps22
        go_wp2_with (first
          | (refine bx_ng rfl rfl rfl ?_; intro w2 hn2; have HN := Lib.hid (show At w2 w.heap.size [.int .u32 base, s] 25 from hn2.to); have HB := Lib.hid (hn2.below (Nat.le_refl _)); clear hn2)
          | fail)
        go_ret
        exact ⟨rfl, HB.out⟩
      · have hb2 : (t % 4 != 0) = true := by rw [bne_iff_ne]; exact hm
        clear hm
        go_enter Try.func22, Try.ntmps22
        go_wp2_with (first
          | (refine bx_ng rfl rfl rfl ?_; intro w2 hn2; have HN := Lib.hid (show At w2 w.heap.size [.int .u32 base, s] 25 from hn2.to); have HB := Lib.hid (hn2.below (Nat.le_refl _)); clear hn2)
          | fail)
        go_ret
        exact ⟨rfl, HB.out⟩

set_option maxRecDepth 100000 in
theorem rLoad_any {base t sz : Int} {ws : List Int} {v : Value} (ht : 0 ≤ t ∧ t < 4294967296) (w : World) (h : RV w v base ws) :
    Calls Try.prog 11 #[v, .int .u32 t, .int .i64 sz] w fun e w' => e = .returned (.tuple #[.int .u32 (ldS base ws t sz).1, .int .i64 (ldS base ws t sz).2]) ∧ Below w.heap.size w w' := by
  have Hw : Hid (∀ W, Below w.heap.size w W → Calls Try.prog 23 #[v, .int .u32 (t - t % 4)] W fun e w' => e = .returned (.tuple #[.int .u32 (wdAt base ws (t - t % 4)).1, .bool (wdAt base ws (t - t % 4)).2]) ∧ Below W.heap.size W w') := fun W hb => rWord_any (by omega) W (h.below hb)
  have Hr : Hid (∀ W, Below w.heap.size w W → Calls Try.prog 22 #[v, .int .u32 t, .int .i64 sz] W fun e w' => e = .returned (.int .i64 (stS base ws t sz)) ∧ Below W.heap.size W w') := fun W hb => rwrong_any ht W (h.below hb)
  obtain ⟨s, rfl, hs, hb, hl⟩ := h
  have hrng := wdAt_range (base := base) (t := t - t % 4) hs.range
  clear hs
  have Hi2 : Hid ((Try.prog.info? 25).map (·.size) = some 2) := by unfold Hid; kernel_rfl
  obtain ⟨ht1, ht2⟩ := ht
  obtain ⟨hb1, hb2⟩ := hb
  by_cases h0 : stS base ws t sz = 0
  · have hc0 : chk t sz = 0 := by
      unfold stS at h0
      split at h0
      · assumption
      · omega
    have his : (wdAt base ws (t - t % 4)).2 = true := by
      rw [stS_is hc0] at h0
      split at h0
      · assumption
      · cases h0
    have hld : ldS base ws t sz = (fld (wdAt base ws (t - t % 4)).1 (8 * (t % 4)).toNat (8 * sz).toNat, 0) := by unfold ldS; rw [if_neg (by omega), if_pos his]
    obtain ⟨hs, hpart⟩ := chk_part ht1 hc0
    rw [hld]
    rw [h0] at Hr
    rw [his] at Hw
    obtain ⟨wd, hwd⟩ : ∃ y, (wdAt base ws (t - t % 4)).1 = y := ⟨_, rfl⟩
    rw [hwd] at Hw hrng ⊢
    have hf := fun W => refField_any wd (8 * (t % 4)).toNat (8 * sz).toNat hrng.1 hrng.2 (by have := hpart; unfold Part at this; omega) (by omega) W
    rw [Int.toNat_of_nonneg (by omega), Int.toNat_of_nonneg (by omega)] at hf
    have Hf := Lib.hid hf
    have h41 : 0 ≤ t % 4 := by omega
    have h42 : t % 4 < 4 := by omega
    have hsz1 : 1 ≤ sz := by omega
    have hsz2 : sz ≤ 4 := by omega
    clear hf hld his hc0 h0 hwd hpart
    go_enter Try.func11, Try.ntmps11
    go_wp2_with (first
      | (refine bx_ng rfl rfl rfl ?_; intro w2 hn2; have HN := Lib.hid (show At w2 w.heap.size [.int .u32 base, s] 25 from hn2.to); have HB := Lib.hid (hn2.below (Nat.le_refl _)); clear hn2)
      | (refine ld_agg rfl rfl rfl HN3.out Try.underlying25 rfl 2 Hi2.out (Nat.le_refl 2) ?_; rw [take2])
      | (refine ld_agg rfl rfl rfl HN.out Try.underlying25 rfl 2 Hi2.out (Nat.le_refl 2) ?_; rw [take2])
      | (go_at_call 22; refine (Hr.out _ HB.out).mono ?_; rintro e w3 ⟨rfl, hb3⟩; have HB3 := Lib.hid (HB.out.trans (hb3.mono HB.out.size)); have HN3 := Lib.hid (HN.out.of_below hb3); clear hb3)
      | (go_at_call 23; refine (Hw.out _ HB3.out).mono ?_; rintro e w4 ⟨rfl, hb4⟩; have HB4 := Lib.hid (HB3.out.trans (hb4.mono HB3.out.size)); clear hb4)
      | (go_at_call 24; refine (Hf.out _).mono ?_; rintro e w5 ⟨rfl, rfl⟩)
      | fail)
    go_ret2
    exact ⟨rfl, HB4.out⟩
  · have hld : ldS base ws t sz = (0, stS base ws t sz) := by
      unfold ldS stS at *
      split at h0
      · rename_i hh; simp [hh]
      · rename_i hh; split at h0
        · exact absurd rfl h0
        · rename_i hh2; simp [hh, hh2]
    rw [hld]
    obtain ⟨c, hc⟩ : ∃ c, stS base ws t sz = c := ⟨_, rfl⟩
    rw [hc] at Hr h0 ⊢
    have hcb : (c != 0) = true := by rw [bne_iff_ne]; exact h0
    clear hld hc h0
    go_enter Try.func11, Try.ntmps11
    go_wp2_with (first
      | (refine bx_ng rfl rfl rfl ?_; intro w2 hn2; have HN := Lib.hid (show At w2 w.heap.size [.int .u32 base, s] 25 from hn2.to); have HB := Lib.hid (hn2.below (Nat.le_refl _)); clear hn2)
      | (refine ld_agg rfl rfl rfl HN.out Try.underlying25 rfl 2 Hi2.out (Nat.le_refl 2) ?_; rw [take2])
      | (go_at_call 22; refine (Hr.out _ HB.out).mono ?_; rintro e w3 ⟨rfl, hb3⟩; have HB3 := Lib.hid (HB.out.trans (hb3.mono HB.out.size)); have HN3 := Lib.hid (HN.out.of_below hb3); clear hb3)
      | fail)
    go_ret2
    exact ⟨rfl, HB3.out⟩
end Go.Proofs.Ytfgipnohomdcoaa
