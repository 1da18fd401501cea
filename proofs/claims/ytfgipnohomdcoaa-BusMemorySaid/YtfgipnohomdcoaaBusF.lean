/- Walk of the reference 16: Store. -/
import Derived.Test.YtfgipnohomdcoaaBusE
namespace Go.Proofs.Ytfgipnohomdcoaa
open Go.RowKit
set_option maxHeartbeats 4000000

/-- an empty slice literal -/
theorem bs_nil {P : Program} {ops : Array Oper} {rest : List Oper} {op : Oper} {a : Act} {w : World} {Q : Exit → Act → World → Prop} (hgd : op.guard = none) {t e : TypeId} (ho : op.op = .buildSlice t 0 #[]) (hu : P.underlying t = some (.slice e)) {m : Nat} (hi : (P.info? e).map (·.size) = some m)
    (h : ∀ w2, New w w2 (.cells #[] e) → wpList P ops Q rest (a.put op.dst (.slice (some ⟨w.heap.size, 0, none⟩) 0 0)) w2) : wpList P ops Q (op :: rest) a w := by
  refine wpList_on (by unfold Region.wanted; rw [hgd]) fun K hK' => ?_
  cases hie : P.info? e with
  | none => rw [hie] at hi; cases hi
  | some ie =>
    have hr : (Instr.buildSlice t 0 #[]).run P w = .ok (.slice (some ⟨w.heap.size, 0, none⟩) 0 0) (w.alloc (.cells #[] e)) := by
      simp [Instr.buildSlice, run_underlying hu, sizeOf, typeInfo, hie, Instr.fill, newRow]
      rw [show Array.range 0 = #[] from by decide, Array.map_empty]
    unfold Oper.wp
    simp [execOp, ho, hr, Result.andThen]
    exact hK' _ _ (h _ (New.alloc w _))
theorem own_empty {w : World} {base g : Nat} {e : TypeId} (hg : base ≤ g) (h : At w g [] e) : w.ownsRow base e 1 (.slice (some ⟨g, 0, none⟩) 0 0) 0 [] :=
  ⟨rfl, .inr ⟨g, 0, #[], rfl, hg, h.heap, Nat.le_refl _, by decide, rfl, rfl⟩⟩
theorem own_at {w : World} {base n : Nat} {e : TypeId} {v : Value} {l : List Int} (h : w.ownsRow base e 1 v n (l.map uv)) (hn : 0 < n) : ∃ g cap c, v = .slice (some ⟨g, 0, none⟩) n cap ∧ base ≤ g ∧ At w g c e ∧ n ≤ cap ∧ cap ≤ 9223372036854775807 ∧ n ≤ c.length ∧ c.take n = l.map uv := by
  obtain ⟨hl, h⟩ := h
  rcases h with ⟨rfl, h0⟩ | ⟨g, cap, cur, rfl, hg, hh, h1, h2, h3, h4⟩
  · omega
  · refine ⟨g, cap, cur.toList, rfl, hg, by unfold At; simpa using hh, h1, by simp only [maxLen] at h2; omega, ?_, ?_⟩
    · have := congrArg List.length h4
      rw [hl, List.length_take] at this
      omega
    · rw [Nat.mul_one] at h4; exact h4
theorem sl_at {w : World} {g n cap : Nat} {c : List Value} {e : TypeId} {l : List Int} (h : At w g c e) (hn : l.length = n) (hc : n ≤ cap) (h63 : cap ≤ 9223372036854775807) (hs : n ≤ 1000000) (ht : c.take n = l.map uv) (hr : ∀ x ∈ l, 0 ≤ x ∧ x < 4294967296) : Sl w (.slice (some ⟨g, 0, none⟩) n cap) l := by
  subst hn
  refine .inr ⟨g, 0, cap, rfl, hc, h63, by omega, h.lt, fun i hi => ?_, hr⟩
  have : c[i]? = (l.map uv)[i]? := by rw [← ht, List.getElem?_take, if_pos hi]
  rw [Nat.zero_add, h.cell, this, List.getElem?_map, List.getElem?_eq_getElem hi]; rfl
theorem at_ne {w : World} {g g' : Nat} {c c' : List Value} {t t' : TypeId} (h : At w g c t) (h' : At w g' c' t') (ht : t ≠ t') : g ≠ g' := by
  rintro rfl
  have := h.heap
  rw [h'.heap] at this
  cases this
  exact ht rfl
theorem uv_one (l : List Int) : ∀ u ∈ l.map uv, u.oneCell' = true := by
  intro u hu
  obtain ⟨x, -, rfl⟩ := List.mem_map.1 hu
  rfl
theorem zero_ram (w : World) : (zeroValue 25).run Try.prog w = .ok (.agg #[.int .u32 0, .slice none 0 0]) w := by
  have h : (Try.prog.info? 25).bind (·.zero) = some (.agg #[.int .u32 0, .slice none 0 0]) := by kernel_rfl
  unfold zeroValue typeInfo
  cases hq : Try.prog.info? 25 with
  | none => rw [hq] at h; cases h
  | some i =>
    rw [hq] at h
    simp only [Option.bind_some] at h
    simp [hq, h]
theorem stW_not {base : Int} {ws : List Int} {t sz v : Int} (h : stS base ws t sz ≠ 0) : stW base ws t sz v = ws := by unfold stW; rw [if_neg h]
theorem stW_len (base : Int) (ws : List Int) (t sz v : Int) : (stW base ws t sz v).length = ws.length := by unfold stW; split; exact wdPut_len _ _ _ _; rfl

set_option maxRecDepth 100000 in
theorem rStore_any {base t sz x : Int} {ws : List Int} {v : Value} (ht : 0 ≤ t ∧ t < 4294967296) (hx : 0 ≤ x ∧ x < 4294967296) (w : World) (h : RV w v base ws) :
    Calls Try.prog 13 #[v, .int .u32 t, .int .i64 sz, .int .u32 x] w fun e w' => (∃ v', e = .returned (.tuple #[v', .int .i64 (stS base ws t sz)]) ∧ RV w' v' base (stW base ws t sz x) ∧ (v' = v ∨ ∃ g n c, v' = .agg #[.int .u32 base, .slice (some ⟨g, 0, none⟩) n c] ∧ w.heap.size ≤ g)) ∧ Below w.heap.size w w' := by
  have Hr : Hid (∀ W, Below w.heap.size w W → Calls Try.prog 22 #[v, .int .u32 t, .int .i64 sz] W fun e w' => e = .returned (.int .i64 (stS base ws t sz)) ∧ Below W.heap.size W w') := fun W hb => rwrong_any ht W (h.below hb)
  have H := Lib.hid h
  obtain ⟨s, rfl, hs, hb, hl⟩ := h
  have Hi2 : Hid ((Try.prog.info? 25).map (·.size) = some 2) := by unfold Hid; kernel_rfl
  obtain ⟨ht1, ht2⟩ := ht
  obtain ⟨hb1, hb2⟩ := hb
  by_cases h0 : stS base ws t sz = 0
  · have hc0 : chk t sz = 0 := by
      unfold stS at h0
      split at h0
      · assumption
      · omega
    have his : (wdAt base ws (t - t % 4)).2 = true := by
      rw [stS_is hc0] at h0
      split at h0
      · assumption
      · cases h0
    obtain ⟨i, hm⟩ : ∃ i, memIdx base (t - t % 4) ws.length = some i := by
      unfold wdAt at his
      split at his
      · exact ⟨_, by assumption⟩
      · cases his
    obtain ⟨m1, m2, m3, m4, hi⟩ := memIdx_some hm
    obtain ⟨hs1, hpart⟩ := chk_part ht1 hc0
    have hstw : stW base ws t sz x = ws.set i (ptF (ws[i]?.getD 0) (8 * (t % 4)).toNat (8 * sz).toNat x) := by
      unfold stW; rw [if_pos h0, wdPut_some hm, wdAt_some hm]
    have hwr : 0 ≤ ws[i]?.getD 0 ∧ ws[i]?.getD 0 < 4294967296 := by
      rw [List.getElem?_eq_getElem hi]; exact hs.range _ (List.getElem_mem _)
    rcases hs with ⟨rfl, rfl⟩ | ⟨b, off, cap, rfl, hcap, hc63, hlb, hbw, hcell, hrng⟩
    · simp at hi
    have hb48 : 8 * (t % 4) + 8 * sz ≤ 32 := by have := hpart; unfold Part at this; omega
    have hpt2 := ptF_u32 (a := (8 * (t % 4)).toNat) x hwr (8 * sz).toNat (by omega)
    have hpt := fun W => refPut_any (ws[i]?.getD 0) x (8 * (t % 4)).toNat (8 * sz).toNat hwr.1 hwr.2 hx.1 hx.2 (by omega) (by omega) W
    rw [Int.toNat_of_nonneg (by omega), Int.toNat_of_nonneg (by omega)] at hpt
    obtain ⟨pv, hpv⟩ : ∃ pv, ptF (ws[i]?.getD 0) (8 * (t % 4)).toNat (8 * sz).toNat x = pv := ⟨_, rfl⟩
    rw [hpv] at hpt hpt2 hstw
    rw [hstw]
    rw [h0] at Hr ⊢
    obtain ⟨wd, hwd⟩ : ∃ wd, ws[i]?.getD 0 = wd := ⟨_, rfl⟩
    rw [hwd] at hpt
    have Hpt := Lib.hid hpt
    have b5 : ((t - base) / 4).toNat = i := by omega
    have b6 : (t - base) / 4 < (ws.length : Int) := by omega
    have b7 : 0 ≤ (t - base) / 4 := by omega
    have b8 : 0 ≤ t - base := by omega
    have Hrg : Hid (∀ W, Below w.heap.size w W → W.rangeAt b off (ws.map uv)) := by
      intro W hW j u hu
      have hj : j < ws.length := by
        have := (List.getElem?_eq_some_iff.1 hu).1
        simpa using this
      rw [hW.cell (p := ⟨b, off + j, none⟩) hbw, hcell j hj]
      rw [List.getElem?_map, List.getElem?_eq_getElem hj] at hu
      rw [List.getElem?_eq_getElem hj]
      exact hu
    have hwi : (ws.map uv)[i]? = some (.int .u32 wd) := by
      rw [List.getElem?_map, List.getElem?_eq_getElem hi, ← hwd, List.getElem?_eq_getElem hi]; rfl
    have Hwi := Lib.hid hwi
    have Hset : Hid (∀ y ∈ ws.set i pv, 0 ≤ y ∧ y < 4294967296) := fun y hy => (List.mem_or_eq_of_mem_set hy).elim (hrng y) (fun e => e ▸ hpt2)
    have Hi1 : Hid ((Try.prog.info? 22).map (·.size) = some 1) := by unfold Hid; kernel_rfl
    have Hj1 : Hid ((Try.prog.info? 23).map (·.size) = some 1) := by unfold Hid; kernel_rfl
    have h41 : 0 ≤ t % 4 := by omega
    have h42 : t % 4 < 4 := by omega
    have hsz1 : 1 ≤ sz := by omega
    have hsz2 : sz ≤ 4 := by omega
    clear hcell hpt hpv hwd hwi hstw hpart hc0 his hm m1 m2 m3 m4 h0 hpt2 hrng hs1 hb48
    go_enter Try.func13, Try.ntmps13
    go_wp2_with (first
      | (refine bx_ng rfl rfl rfl ?_; intro w2 hn2; have HN2 := Lib.hid (show At w2 w.heap.size [.int .u32 base, .slice (some ⟨b, off, none⟩) ws.length cap] 25 from hn2.to); have HB2 := Lib.hid (hn2.below (Nat.le_refl _)); have HB2s : Hid (w.heap.size < w2.heap.size) := HN2.out.lt; clear hn2)
      | (refine al_new rfl rfl (zero_ram _) ?_; intro w3 hn3; have HA3 := Lib.hid (show At w3 w2.heap.size [.int .u32 0, .slice none 0 0] 25 from hn3.to); have HN3 := Lib.hid (hn3.at HN2.out); have HB3 := Lib.hid (HB2.out.trans (hn3.below HB2.out.size)); clear hn3)
      | (refine ld_agg rfl rfl rfl HN3.out Try.underlying25 rfl 2 Hi2.out (Nat.le_refl 2) ?_; rw [take2])
      | (go_at_call 22; refine (Hr.out _ HB3.out).mono ?_; rintro e w4 ⟨rfl, hb4⟩; have HB4 := Lib.hid (HB3.out.trans (hb4.mono HB3.out.size)); have HN4 := Lib.hid (HN3.out.of_below hb4); have HA4 := Lib.hid (HA3.out.of_below hb4); have c0 : w4.cell? ⟨w.heap.size, 0, none⟩ = some (.int .u32 base) := HN4.out.cell 0; clear hb4)
      | (refine bs_nil rfl rfl Try.underlying23 Hi1.out ?_; intro w5 hn5; have HE5 := Lib.hid (show At w5 w4.heap.size [] 22 from hn5.to); have HN5 := Lib.hid (hn5.at HN4.out); have HA5 := Lib.hid (hn5.at HA4.out); have HB5 := Lib.hid (HB4.out.trans (hn5.below HB4.out.size)); have c1 : w5.cell? ⟨w.heap.size, 1, none⟩ = some (.slice (some ⟨b, off, none⟩) ws.length cap) := HN5.out.cell 1; clear hn5)
      | (refine ap_src rfl _ _ _ rfl (bytes := 4) (base := w.heap.size) Try.underlying23 Hi1.out (by kernel_rfl) (by kernel_rfl) (by decide) rfl (own_empty HB4.out.size HE5.out) rfl (b := b) (o := off) (cs := ws.map uv) (Hrg.out _ HB5.out) (by rw [List.length_map, Nat.mul_one]) (uv_one _) (by unfold maxLen; omega) (by omega) HB5.out.size ?_; intro v6 w6 ho6 hg6
         rw [List.nil_append] at ho6
         obtain ⟨g, gcap, c, rfl, hgb, hat, hgc, hg63, hcl, hct⟩ := own_at ho6 (by omega)
         have HN6 := Lib.hid (at_grown HN5.out hg6 (own_ne (own_empty HB4.out.size HE5.out) HN5.out (by decide)))
         have HA6 := Lib.hid (at_grown HA5.out hg6 (own_ne (own_empty HB4.out.size HE5.out) HA5.out (by decide)))
         have HB6 := Lib.hid (HB5.out.grown hg6 HB5.out.size (fun k e => own_base (own_empty HB4.out.size HE5.out) k e))
         have HG6 := Lib.hid hat; have Hct := Lib.hid hct
         have c2 : w6.cell? ⟨g, i, none⟩ = some (.int .u32 wd) := by
           rw [hat.cell, ← Hwi.out, ← hct, List.getElem?_take, if_pos (by omega)]
         clear ho6 hg6 hat hct)
      | (go_at_call 27; refine (Hpt.out _).mono ?_; rintro e w6' ⟨rfl, rfl⟩)
      | (refine st_cell (v := .int .u32 pv) rfl rfl rfl rfl rfl HG6.out Hi1.out (by omega) rfl ?_; intro w7 hu7; have HG7 := Lib.hid hu7.to; have HN7 := Lib.hid (hu7.at HN6.out (at_ne HN6.out HG6.out (by decide))); have HA7 := Lib.hid (hu7.at HA6.out (at_ne HA6.out HG6.out (by decide))); have HB7 := Lib.hid (HB6.out.trans (hu7.below hgb)); clear hu7)
      | (refine st_cell (v := .slice (some ⟨g, 0, none⟩) ws.length gcap) rfl rfl rfl rfl rfl HN7.out Hj1.out (Nat.le_refl 2) rfl ?_; intro w8 hu8; have HN8 := Lib.hid (show At w8 w.heap.size [.int .u32 base, .slice (some ⟨g, 0, none⟩) ws.length gcap] 25 from hu8.to); have HG8 := Lib.hid (hu8.at HG7.out (at_ne HG7.out HN7.out (by decide))); have HA8 := Lib.hid (hu8.at HA7.out (Nat.ne_of_gt HB2s.out)); have HB8 := Lib.hid (HB7.out.trans (hu8.below (Nat.le_refl _))); clear hu8)
      | (refine ld_agg rfl rfl rfl HN8.out Try.underlying25 rfl 2 Hi2.out (Nat.le_refl 2) ?_; rw [take2])
      | (refine st_agg rfl rfl rfl rfl HA8.out 2 Hi2.out rfl (Nat.le_refl 2) (by intro v hv; simp at hv; rcases hv with rfl | rfl <;> rfl) ?_; intro w9 hu9; have HU9 := Lib.hid hu9; clear hu9)
      | fail)
    have HB9 := Lib.hid (HB8.out.trans (HU9.out.below HB2.out.size))
    have HG9 := Lib.hid (HU9.out.at HG8.out (at_ne HG8.out HA8.out (by decide)))
    refine bodyPost_ret (v := .tuple #[.agg #[.int .u32 base, .slice (some ⟨g, 0, none⟩) ws.length gcap], .int .i64 0]) ?_ rfl ⟨⟨_, rfl, ⟨_, rfl, sl_at HG9.out (by rw [List.length_set]) (by omega) hg63 (by omega) ?_ Hset.out, ⟨hb1, hb2⟩, by rw [List.length_set]; exact hl⟩, .inr ⟨_, _, _, rfl, hgb⟩⟩, HB9.out⟩
    · exact res_cell_tmp (p := 8) (q := 9) (ty := 25) rfl _ rfl HU9.out.to Try.underlying25 rfl 2 Hi2.out rfl
    · have h : c.take ws.length = ws.map uv := by have h := Hct.out; rwa [Nat.zero_add] at h
      rw [List.take_set, h]
      show (ws.map uv).set i (uv pv) = _
      rw [List.map_set]
  · rw [stW_not h0]
    obtain ⟨c, hc⟩ : ∃ c, stS base ws t sz = c := ⟨_, rfl⟩
    rw [hc] at Hr h0 ⊢
    have hcb : (c != 0) = true := by rw [bne_iff_ne]; exact h0
    have h1s : ∀ v ∈ ([.int .u32 base, s] : List Value), v.oneCell' = true := by
      obtain ⟨a, k, rfl⟩ := hs.shape
      intro v hv
      simp at hv
      rcases hv with rfl | rfl <;> rfl
    have H1 := Lib.hid h1s
    clear hc h0 hs h1s
    go_enter Try.func13, Try.ntmps13
    go_wp2_with (first
      | (refine bx_ng rfl rfl rfl ?_; intro w2 hn2; have HN2 := Lib.hid (show At w2 w.heap.size [.int .u32 base, s] 25 from hn2.to); have HB2 := Lib.hid (hn2.below (Nat.le_refl _)); clear hn2)
      | (refine al_new rfl rfl (zero_ram _) ?_; intro w3 hn3; have HA3 := Lib.hid (show At w3 w2.heap.size [.int .u32 0, .slice none 0 0] 25 from hn3.to); have HN3 := Lib.hid (hn3.at HN2.out); have HB3 := Lib.hid (HB2.out.trans (hn3.below HB2.out.size)); clear hn3)
      | (refine ld_agg rfl rfl rfl HN4.out Try.underlying25 rfl 2 Hi2.out (Nat.le_refl 2) ?_; rw [take2])
      | (refine ld_agg rfl rfl rfl HN3.out Try.underlying25 rfl 2 Hi2.out (Nat.le_refl 2) ?_; rw [take2])
      | (go_at_call 22; refine (Hr.out _ HB3.out).mono ?_; rintro e w4 ⟨rfl, hb4⟩; have HB4 := Lib.hid (HB3.out.trans (hb4.mono HB3.out.size)); have HN4 := Lib.hid (HN3.out.of_below hb4); have HA4 := Lib.hid (HA3.out.of_below hb4); clear hb4)
      | (refine st_agg rfl rfl rfl rfl HA4.out 2 Hi2.out rfl (Nat.le_refl 2) H1.out ?_; intro w5 hu5; have HU5 := Lib.hid hu5; clear hu5)
      | fail)
    have HB5 := Lib.hid (HB4.out.trans (HU5.out.below (Nat.le_trans HB2.out.size (Nat.le_refl _))))
    refine bodyPost_ret (v := .tuple #[.agg #[.int .u32 base, s], .int .i64 c]) ?_ rfl ⟨⟨_, rfl, H.out.below HB5.out, .inl rfl⟩, HB5.out⟩
    exact res_cell_tmp (p := 8) (q := 9) (ty := 25) rfl _ rfl HU5.out.to Try.underlying25 rfl 2 Hi2.out rfl
end Go.Proofs.Ytfgipnohomdcoaa
