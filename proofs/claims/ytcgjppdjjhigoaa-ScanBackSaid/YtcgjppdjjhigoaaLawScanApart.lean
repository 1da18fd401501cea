/- The statement ScanApart: words of other blocks, and behind the pages, count nothing for a block. No condition. -/
import Derived.Test.YtcgjppdjjhigoaaScanS
import Derived.Test.YtcgjppdjjhigoaaEqs
import Derived.IntWalk
namespace Go.Proofs.Ytcgjppdjjhigoaa
open Go.ChangeShapes Go.WideShapes Go.ChangeAt Go.RowKit
set_option maxHeartbeats 4000000

theorem blk_len {l : List Int} {m i : Nat} (hl : l.length = 64 * m) (hi : i < m) : (blk l i).length = 64 := by unfold blk; rw [List.length_take, List.length_drop]; omega
theorem blk_set_other {l : List Int} {K i : Nat} (v : Int) (h : i ≠ K / 64) : blk (l.set K v) i = blk l i := by
  unfold blk
  apply List.ext_getElem?
  intro j
  rw [List.getElem?_take, List.getElem?_take]
  split
  · rw [List.getElem?_drop, List.getElem?_drop, List.getElem?_set_ne (by omega)]
  · rfl
theorem take_set_far {l : List Int} {K a n : Nat} (v : Int) (h : a + n ≤ K) : ((l.set K v).drop a).take n = (l.drop a).take n := by
  apply List.ext_getElem?
  intro j
  rw [List.getElem?_take, List.getElem?_take]
  split
  · rw [List.getElem?_drop, List.getElem?_drop, List.getElem?_set_ne (by omega)]
  · rfl
theorem blk_set_here {l : List Int} {K : Nat} (v : Int) : blk (l.set K v) (K / 64) = (blk l (K / 64)).set (K % 64) v := by
  unfold blk
  apply List.ext_getElem?
  intro j
  by_cases e : j = K % 64
  · subst e
    by_cases hk : K < l.length
    · rw [List.getElem?_take, if_pos (by omega), List.getElem?_drop, show 64 * (K / 64) + K % 64 = K by omega, List.getElem?_set_self hk, List.getElem?_set_self (by rw [List.length_take, List.length_drop]; omega)]
    · rw [List.getElem?_take, if_pos (by omega), List.getElem?_drop, show 64 * (K / 64) + K % 64 = K by omega, List.getElem?_eq_none (by simp; omega), List.getElem?_eq_none (by simp; omega)]
  · rw [List.getElem?_set_ne (by omega), List.getElem?_take, List.getElem?_take]
    split
    · rw [List.getElem?_drop, List.getElem?_drop, List.getElem?_set_ne (by omega)]
    · rfl
theorem fBk_far {l : List Int} {j : Nat} (v : Int) (h : 60 ≤ j) : fBk (l.set j v) = fBk l := by
  have h0 : (l.set j v).take 4 = l.take 4 := by have := take_set_far (l := l) (K := j) (a := 0) (n := 4) v (by omega); simpa using this
  have hp : ∀ x : Fin 8, pgWords (l.set j v) x.1 = pgWords l x.1 := fun x => by unfold pgWords; exact take_set_far v (by have := x.2; omega)
  have hk : fKind (l.set j v) = fKind l := by funext x; unfold fKind; rw [h0, hp]
  have hg : fPage (l.set j v) = fPage l := by funext x; unfold fPage; rw [h0, hp]
  unfold fBk
  rw [h0, hk, hg]
theorem found_apart {l : List Int} {K i : Nat} (v : Int) (h : i ≠ K / 64 ∨ 60 ≤ K % 64) : fBk (blk (l.set K v) i) = fBk (blk l i) := by
  by_cases e : i = K / 64
  · subst e
    rw [blk_set_here, fBk_far _ (h.resolve_left (fun k => k rfl))]
  · rw [blk_set_other _ e]

/-- a slice that the call owns, as a block -/
theorem own_at {w : World} {base n : Nat} {e : TypeId} {v : Value} {l : List Int} (h : w.ownsRow base e 1 v n (l.map uv)) (hn : 0 < n) : ∃ g cap c, v = .slice (some ⟨g, 0, none⟩) n cap ∧ base ≤ g ∧ At w g c e ∧ n ≤ cap ∧ cap ≤ 9223372036854775807 ∧ n ≤ c.length ∧ c.take n = l.map uv := by
  obtain ⟨hl, h⟩ := h
  rcases h with ⟨rfl, h0⟩ | ⟨g, cap, cur, rfl, hg, hh, h1, h2, h3, h4⟩
  · omega
  · refine ⟨g, cap, cur.toList, rfl, hg, by unfold At; simpa using hh, h1, by simp only [maxLen] at h2; omega, ?_, ?_⟩
    · have := congrArg List.length h4
      rw [hl, List.length_take] at this
      omega
    · rw [Nat.mul_one] at h4; exact h4
theorem sl_at {w : World} {g n cap : Nat} {c : List Value} {e : TypeId} {l : List Int} (h : At w g c e) (hn : l.length = n) (hc : n ≤ cap) (h63 : cap ≤ 9223372036854775807) (hs : n ≤ 1000000) (ht : c.take n = l.map uv) (hr : ∀ x ∈ l, 0 ≤ x ∧ x < 4294967296) : Sl w (.slice (some ⟨g, 0, none⟩) n cap) l := by
  subst hn
  refine .inr ⟨g, 0, cap, rfl, hc, h63, by omega, h.lt, fun i hi => ?_, hr⟩
  have : c[i]? = (l.map uv)[i]? := by rw [← ht, List.getElem?_take, if_pos hi]
  rw [Nat.zero_add, h.cell, this, List.getElem?_map, List.getElem?_eq_getElem hi]; rfl

set_option maxRecDepth 100000 in
theorem scanApart_walk (b off cap m : Nat) (l : List Int) (t v : Int) (w : World) (hl : l.length = 64 * m) (hm1 : 1 ≤ m) (hm2 : m ≤ 8) (ht : 0 ≤ t ∧ t < 65536) (hv : 0 ≤ v ∧ v < 4294967296) (hcap : l.length ≤ cap) (hc63 : cap ≤ 9223372036854775807) (hb : b < w.heap.size) (hs : Sl w (.slice (some ⟨b, off, none⟩) l.length cap) l) :
    Calls Try.prog 12 #[.slice (some ⟨b, off, none⟩) l.length cap, .int .u16 t, .int .u32 v] w fun e w' => e = .returned (.bool true) ∧ Below w.heap.size w w' := by
  have hr := hs.range
  obtain ⟨K, hK⟩ : ∃ K : Nat, t.toNat % l.length = K := ⟨_, rfl⟩
  have hKl : K < l.length := by rw [← hK]; exact Nat.mod_lt _ (by omega)
  have hKt : t % (l.length : Int) = (K : Int) := by rw [← hK, Int.natCast_emod, Int.toNat_of_nonneg ht.1]
  have hr2 : ∀ x ∈ l.set K v, 0 ≤ x ∧ x < 4294967296 := fun x hx => (List.mem_or_eq_of_mem_set hx).elim (hr x) (fun e => e ▸ hv)
  have hl2 : (l.set K v).length = 64 * m := by rw [List.length_set]; exact hl
  have hfl := foundBks_length l m
  have hfl2 := foundBks_length (l.set K v) m
  have Hs := Lib.hid hs; have Hr := Lib.hid hr; have Hr2 := Lib.hid hr2; have Hfl := Lib.hid hfl; have Hfl2 := Lib.hid hfl2; have Hl2 := Lib.hid hl2
  have hlen : l.length ≤ 512 := by omega
  have hpos : 0 < l.length := by omega
  have hrng : w.rangeAt b off (l.map uv) := by
    obtain ⟨b', off', cap', he, _, _, _, hcell⟩ := hs.cells (by intro e; rw [e] at hpos; simp at hpos)
    simp only [Value.slice.injEq, Option.some.injEq, Addr.mk.injEq] at he
    obtain ⟨⟨rfl, rfl, -⟩, -, rfl⟩ := he
    intro j u hu
    rw [List.getElem?_map, Option.map_eq_some_iff] at hu
    obtain ⟨x, hx, rfl⟩ := hu
    exact hcell w (Below.refl _ _) j x hx
  have Hrng := Lib.hid hrng
  have Hl := Lib.hid hl; have HK := Lib.hid hK; clear hl hs hr hr2 hfl hfl2 hK hl2 hrng
  have Hi66 : Hid ((Try.prog.info? 68).map (·.size) = some 66) := by unfold Hid; kernel_rfl
  have Hi1 : Hid ((Try.prog.info? 22).map (·.size) = some 1) := by unfold Hid; kernel_rfl
  have hlb : ((l.length : Int) == 0) = false := by rw [beq_eq_false_iff_ne]; omega
  have hne0 : (l.length : Int) ≠ 0 := by omega
  go_enter Try.func12, Try.ntmps12
  go_wp2_with fail
  refine (alive06_any _).mono ?_
  rintro e w1 ⟨rfl, hb1⟩
  have HB1 := Lib.hid hb1; clear hb1
  go_wp2_with fail
  refine (scanWords_any _ _ _ m l _ Hl.out ⟨hm1, by omega⟩ hcap hc63 (Nat.lt_of_lt_of_le hb HB1.out.size) (Hs.out.below HB1.out)).mono ?_
  rintro e w2 ⟨⟨v2, rfl, ho2⟩, hb2⟩
  have hl2 := bl_found ho2 Hr.out
  obtain ⟨a2, c2, rfl⟩ := hl2.shape
  have HL2 := Lib.hid hl2
  have HB2 := Lib.hid (HB1.out.trans (hb2.mono HB1.out.size))
  rw [Hfl.out]
  clear ho2 hb2 hl2 HB1
  go_wp2_with (first
    | (refine ap_src rfl _ _ _ rfl (bytes := 4) (base := w2.heap.size) Try.underlying26 Hi1.out (by kernel_rfl) (by kernel_rfl) (by decide) rfl (ownsRow_nil _ _ _ _) rfl (b := b) (o := off) (cs := l.map uv) (fun j u hu => by rw [HB2.out.cell (p := ⟨b, off + j, none⟩) hb]; exact Hrng.out j u hu) (by rw [List.length_map, Nat.mul_one]) (uv_one _) (by unfold maxLen; omega) (by omega) (Nat.le_refl _) ?_; intro v3 w3 ho3 hg3
       obtain ⟨g, gcap, c, rfl, hgb, hat, hgc, hg63, hcl, hct⟩ := own_at ho3 (by omega)
       have H3 := Lib.hid ((Below.refl w2.heap.size w2).grown hg3 (Nat.le_refl _) (fun j e => by cases e))
       have HA3 := Lib.hid hat; have Hct := Lib.hid hct
       clear ho3 hg3 hat hct)
    | (refine st_cell (v := .int .u32 v) rfl rfl rfl rfl rfl HA3.out Hi1.out (by omega) rfl ?_; intro w4 hu4; have HU4 := Lib.hid hu4; clear hu4)
    | fail)
  have hat4 := HU4.out.to
  have hct4 : (c.set K (.int .u32 v)).take l.length = (l.set K v).map uv := by
    have h : c.take l.length = l.map uv := by have h := Hct.out; rwa [Nat.zero_add] at h
    rw [List.take_set, h]
    show (l.map uv).set K (uv v) = _
    rw [List.map_set]
  have hs4 : Sl w4 (.slice (some ⟨g, 0, none⟩) l.length gcap) (l.set K v) := sl_at hat4 (by rw [List.length_set]) (by omega) hg63 (by omega) hct4 Hr2.out
  have H4 := Lib.hid (H3.out.trans (HU4.out.below hgb))
  have HL4 := Lib.hid (HL2.out.below H4.out)
  have hw := scanWords_any g 0 gcap m (l.set K v) w4 Hl2.out ⟨hm1, by omega⟩ (by rw [List.length_set]; omega) hg63 hat4.lt (by rw [List.length_set]; exact hs4)
  rw [List.length_set] at hw
  have Hat4 := Lib.hid hat4; clear hat4 hct4 hs4
  refine hw.mono ?_
  clear hw
  rintro e w5 ⟨⟨v5, rfl, ho5⟩, hb5⟩
  have hl5 := bl_found ho5 Hr2.out
  obtain ⟨a5, c5, rfl⟩ := hl5.shape
  have HL5 := Lib.hid hl5
  have HL4 := Lib.hid (HL4.out.below hb5)
  have HB5 := Lib.hid (HB2.out.trans ((H4.out.trans (hb5.mono H4.out.size)).mono HB2.out.size))
  rw [Hfl2.out]
  clear ho5 hb5 hl5
  go_wp2_with fail
  have Hap : Hid (∀ i : Nat, (i ≠ K / 64 ∨ 60 ≤ K % 64) → fBk (blk (l.set K v) i) = fBk (blk l i)) := Lib.hid fun i h => found_apart v h
  go_loopw [13, 61] (fun _ i wr => ∃ k n : Nat, k ≤ m ∧ i = .int .i64 k ∧ wr = w5.drewN n) (fun _ i _ => m - (intOf i).toNat)
  case atStart => exact ⟨0, 0, by omega, rfl, rfl⟩
  case round =>
    obtain ⟨k, n, hk, rfl, rfl⟩ := hrel
    by_cases hlt : k < m
    · have hx : (foundBks l m)[k]? = some (fBk (blk l k)) := foundBks_at hlt
      have hy : (foundBks (l.set K v) m)[k]? = some (fBk (blk (l.set K v) k)) := foundBks_at hlt
      obtain ⟨hok, b1, off1, cap1, hv1, hbw, hrg⟩ := HL4.out.block hx
      simp only [Value.slice.injEq] at hv1
      obtain ⟨rfl, -, rfl⟩ := hv1
      obtain ⟨hok2, b2, off2, cap2, hv1, hbw2, hrg2⟩ := HL5.out.block hy
      simp only [Value.slice.injEq] at hv1
      obtain ⟨rfl, -, rfl⟩ := hv1
      have hap := Hap.out k
      generalize fBk (blk l k) = x at *
      generalize fBk (blk (l.set K v) k) = y at *
      have r1 := bk_load hok (hrg w5 (Below.refl _ _)) Try.underlying68 rfl Hi66.out
      have r2 := bk_load hok2 (hrg2 w5 (Below.refl _ _)) Try.underlying68 rfl Hi66.out
      have hq := bk_neq_our x y hok hok2
      obtain ⟨q, hqe⟩ : ∃ q, (!decide (x = y)) = q := ⟨_, rfl⟩
      rw [hqe] at hq
      have R1 := Lib.hid r1; have R2 := Lib.hid r2; have Hqe := Lib.hid hqe
      have Hap2 := Lib.hid hap
      have Hq := Lib.hid hq
      clear hx hy hrg hrg2 hok hok2 r1 r2 hqe hap hq
      have hz : k < 140737488355328 := by omega
      cases q
      · go_wp2_with fail
        refine wp_region_quiet_lit (by kernel_rfl) (by kernel_rfl) ?_
        iterate 3 (first | ((with_reducible refine wpQuiet_step (fun K' hK' => ?_)); go_simp; (with_reducible refine hK' _ ?_); clear hK' K') | ((with_reducible refine wpQuiet_skip ?_ ?_); focus rfl))
        refine wpQuiet_ld rfl rfl rfl (by rintro w' ⟨m', rfl⟩; rw [World.drewN_drewN]; exact R1.out _) ?_
        iterate 3 (first | ((with_reducible refine wpQuiet_step (fun K' hK' => ?_)); go_simp; (with_reducible refine hK' _ ?_); clear hK' K') | ((with_reducible refine wpQuiet_skip ?_ ?_); focus rfl))
        refine wpQuiet_ld rfl rfl rfl (by rintro w' ⟨m', rfl⟩; rw [World.drewN_drewN]; exact R2.out _) ?_
        refine wpQuiet_eqs rfl rfl rfl rfl Try.eqGuardType68 Hq.out ?_
        iterate 11 (first | ((with_reducible refine wpQuiet_step (fun K' hK' => ?_)); go_simp; (with_reducible refine hK' _ ?_); clear hK' K') | ((with_reducible refine wpQuiet_skip ?_ ?_); focus rfl))
        refine wpQuiet_nil ?_
        rintro w' ⟨nq, rfl⟩
        go_wp2_with fail
        exact ⟨⟨k + 1, n + nq, by omega, by go_num, rfl⟩, by simp only [intOf]; omega⟩
      · have hc1 : ((k : Int) != (K : Int) / 64) = false := by
          rw [bne_eq_false_iff_eq]
          by_cases e : k = K / 64
          · omega
          · have := Hap2.out (.inl e); have h2 := Hqe.out; rw [this] at h2; simp at h2
        have hc2 : decide ((60 : Int) ≤ (K : Int) % 64) = false := by
          rw [decide_eq_false_iff_not]
          intro e
          have := Hap2.out (.inr (by omega)); have h2 := Hqe.out; rw [this] at h2; simp at h2
        have Hc1 := Lib.hid hc1; have Hc2 := Lib.hid hc2; clear hc1 hc2
        go_wp2_with fail
        refine wp_region_quiet_lit (by kernel_rfl) (by kernel_rfl) ?_
        iterate 3 (first | ((with_reducible refine wpQuiet_step (fun K' hK' => ?_)); go_simp; (with_reducible refine hK' _ ?_); clear hK' K') | ((with_reducible refine wpQuiet_skip ?_ ?_); focus rfl))
        refine wpQuiet_ld rfl rfl rfl (by rintro w' ⟨m', rfl⟩; rw [World.drewN_drewN]; exact R1.out _) ?_
        iterate 3 (first | ((with_reducible refine wpQuiet_step (fun K' hK' => ?_)); go_simp; (with_reducible refine hK' _ ?_); clear hK' K') | ((with_reducible refine wpQuiet_skip ?_ ?_); focus rfl))
        refine wpQuiet_ld rfl rfl rfl (by rintro w' ⟨m', rfl⟩; rw [World.drewN_drewN]; exact R2.out _) ?_
        refine wpQuiet_eqs rfl rfl rfl rfl Try.eqGuardType68 Hq.out ?_
        have hc1 := Hc1.out; have hc2 := Hc2.out
        have hd1 : Int.tdiv (K : Int) 64 = (K : Int) / 64 := Int.tdiv_eq_ediv_of_nonneg (by omega)
        have hd3 : IntKind.i64.wrap ((K : Int) / 64) = (K : Int) / 64 := IntWalk.i64_in _ (by omega)
        have hd4 : IntKind.i64.wrap ((K : Int) % 64) = (K : Int) % 64 := IntWalk.i64_in _ (by omega)
        have hd2 : Int.tmod (K : Int) 64 = (K : Int) % 64 := Int.tmod_eq_emod_of_nonneg (by omega)
        iterate 11 (first | ((with_reducible refine wpQuiet_step (fun K' hK' => ?_)); go_simp; (with_reducible refine hK' _ ?_); clear hK' K') | ((with_reducible refine wpQuiet_skip ?_ ?_); focus rfl))
        refine wpQuiet_nil ?_
        rintro w' ⟨nq, rfl⟩
        clear hc1 hc2 hd1 hd2 hd3 hd4
        go_wp2_with fail
        exact ⟨⟨k + 1, n + nq, by omega, by go_num, rfl⟩, by simp only [intOf]; omega⟩
    · obtain rfl : k = m := by omega
      go_wp2_with fail
      go_ret
      exact ⟨rfl, bel_drewN HB5.out _⟩

set_option maxRecDepth 100000 in
theorem scanApart_far (a : Option Addr) (n cap : Nat) (t v : Int) (w : World) (h1 : 512 < n) (h2 : n ≤ 9223372036854775807) :
    Calls Try.prog 12 #[.slice a n cap, .int .u16 t, .int .u32 v] w fun e w' => e = .returned (.bool true) ∧ Below w.heap.size w w' := by
  have hb : decide ((512 : Int) < (n : Int)) = true := by rw [decide_eq_true_eq]; omega
  go_enter Try.func12, Try.ntmps12
  go_wp2_with fail
  refine (alive06_any _).mono ?_
  rintro e w1 ⟨rfl, hb1⟩
  have HB1 := Lib.hid hb1; clear hb1
  go_wp2_with fail
  go_ret
  exact ⟨rfl, HB1.out⟩
set_option maxRecDepth 100000 in
theorem scanApart_none (a : Option Addr) (cap : Nat) (t v : Int) (w : World) :
    Calls Try.prog 12 #[.slice a 0 cap, .int .u16 t, .int .u32 v] w fun e w' => e = .returned (.bool true) ∧ Below w.heap.size w w' := by
  go_enter Try.func12, Try.ntmps12
  go_wp2_with fail
  refine (alive06_any _).mono ?_
  rintro e w1 ⟨rfl, hb1⟩
  have HB1 := Lib.hid hb1; clear hb1
  go_wp2_with fail
  go_ret
  exact ⟨rfl, HB1.out⟩
set_option maxRecDepth 100000 in
theorem scanApart_form (a : Option Addr) (n cap : Nat) (t v : Int) (w : World) (h1 : n ≤ 512) (h0 : n ≠ 0) (h : n % 64 ≠ 0 ∨ n / 64 < 1 ∨ 64 < n / 64) :
    Calls Try.prog 12 #[.slice a n cap, .int .u16 t, .int .u32 v] w fun e w' => e = .returned (.bool true) ∧ Below w.heap.size w w' := by
  have hb : decide ((512 : Int) < (n : Int)) = false := by rw [decide_eq_false_iff_not]; omega
  have hlb : ((n : Int) == 0) = false := by rw [beq_eq_false_iff_ne]; omega
  have H := Lib.hid h; clear h h0
  go_enter Try.func12, Try.ntmps12
  go_wp2_with fail
  refine (alive06_any _).mono ?_
  rintro e w1 ⟨rfl, hb1⟩
  have HB1 := Lib.hid hb1; clear hb1
  go_wp2_with fail
  refine (scanWords_form _ _ _ _ (by omega) H.out).mono ?_
  rintro e w2 ⟨rfl, rfl⟩
  go_wp2_with fail
  go_ret
  exact ⟨rfl, HB1.out⟩

namespace scanApart
set_option maxRecDepth 100000 in
theorem owed : Owed Try.prog 12 Try.f12 := by
  intro H enc W base args ds p hval hA
  rw [Try.params12] at hval hA
  obtain ⟨hl, _⟩ := trodAll_len _ _ _ _ hA
  obtain ⟨v0, v1, v2, rfl⟩ : ∃ v0 v1 v2, args = #[v0, v1, v2] := by
    obtain ⟨l⟩ := args
    match l, hl with
    | [v0, v1, v2], _ => exact ⟨v0, v1, v2, rfl⟩
  obtain ⟨_, _, _, _, h0, r0⟩ := trodAll_head (v := v0) (vs := [v1, v2]) hA
  obtain ⟨_, _, _, _, h1, r1⟩ := trodAll_head (v := v1) (vs := [v2]) r0
  obtain ⟨_, _, _, _, h2, r2⟩ := trodAll_head (v := v2) (vs := []) r1
  clear r2
  have hv0 := hval 0 26 v0 rfl rfl
  have hv1 := hval 1 82 v1 rfl rfl
  have hv2 := hval 2 22 v2 rfl rfl
  clear hval hA
  obtain ⟨a, cap, l, rfl, hcap, hs⟩ := open_words Try.underlying26 Try.underlying22 (by kernel_rfl) hv0 h0
  obtain ⟨t, rfl, ht⟩ := open_u16 Try.underlying82 hv1
  obtain ⟨v, rfl, hv⟩ := open_u32 Try.underlying22 hv2
  have hle := okWide_slice_le Try.underlying26 hv0
  by_cases hlen : l.length ≤ 512
  · by_cases h0 : l.length = 0
    · rw [h0]; exact scanApart_none a cap t v W
    · by_cases hf : l.length % 64 ≠ 0 ∨ l.length / 64 < 1 ∨ 64 < l.length / 64
      · exact scanApart_form a l.length cap t v W hlen h0 hf
      · obtain ⟨b, off, cap', hv, h1, h2, h3⟩ := sl_slice (hs (by omega)) (by intro e; rw [e] at hf; simp at hf)
        simp only [Value.slice.injEq] at hv
        obtain ⟨rfl, -, rfl⟩ := hv
        exact scanApart_walk b off cap (l.length / 64) l t v W (by omega) (by omega) (by omega) ht ‹_› h1 h2 h3 (hs (by omega))
  · exact scanApart_far a l.length cap t v W (by omega) hle

theorem own : ownKnob Try.prog.godebug = none := by kernel_rfl
theorem laidOut : laidOutB Try.prog = true := by kernel_rfl

set_option maxRecDepth 100000 in
theorem lifted (os : Os) (started : os.Started) (H : Type) (enc : TypeId × Value → H) :
    ReturnsInHanded {} Try.checked os 12 .any (Rows.scanApartSpec.pre6 enc Try.prog Try.f12 Rows.scanApartRow.domain false) (Rows.scanApartSpec.post enc Try.prog Try.f12 false true false false) := by
  refine law_handed (C := Try.checked) (tb := 4) own started (by kernel_rfl) Try.func12
    (ChangeSpec.witness6 (enc := enc) (C := Try.checked) false ⟨#[], #[.slice none 0 0, .int .u16 0, .int .u32 0], []⟩ 8 (by kernel_rfl) (by kernel_rfl) (by kernel_rfl) (by kernel_rfl))
    rfl Try.underlying4 rfl ?_ laidOut (of_decide_eq_true (by kernel_rfl)) owed
  intro ds hl
  match ds, hl with
  | [a, b, c], _ => exact ⟨rfl, rfl, rfl⟩

theorem over : Rows.scanApartRow.holds Try.pinned (OpenSpec.ofChange Rows.scanApartSpec) :=
  OpenClaim.holds_of_wide 12 Try.f12 rfl rfl rfl rfl rfl rfl rfl ⟨rfl, rfl, rfl, rfl, rfl⟩ rfl rfl rfl rfl rfl (by kernel_rfl) Try.func12 (by kernel_rfl)
    (of_decide_eq_true (by kernel_rfl)) (by unfold Func.isWrapper; first | (rw [if_pos (by decide +kernel)]; kernel_rfl) | (rw [if_neg (by decide +kernel)]; exact ⟨rfl, rfl⟩))
    (fun os started H enc _ => lifted os started H enc)

theorem proved : Rows.ScanApartSaid := over
end scanApart
#print axioms scanApart.proved
end Go.Proofs.Ytcgjppdjjhigoaa
