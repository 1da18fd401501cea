/- The statement ScanSizes: just whole blocks are scanned, so many at most as there may be; each is told once. No condition. -/
import Derived.Test.YtcgjppdjjhigoaaLawScanApart
import Derived.Test.YtcgjppdjjhigoaaMake
namespace Go.Proofs.Ytcgjppdjjhigoaa
open Go.ChangeShapes Go.WideShapes Go.ChangeAt Go.RowKit
set_option maxHeartbeats 4000000

theorem blk_rep (v : Int) {m i : Nat} (h : i < m) : blk (List.replicate (64 * m) v) i = List.replicate 64 v := by
  unfold blk
  rw [List.drop_replicate, List.take_replicate, Nat.min_eq_left (by omega)]
def bRep (v : Int) : Bk := fBk (List.replicate 64 v)
theorem bRep_h (v : Int) : (bRep v).h ≠ 1 := by
  show (count ((List.replicate 64 v).take 4)).2 ≠ 1
  rw [List.take_replicate]
  show (count [v, v, v, v]).2 ≠ 1
  unfold count
  rw [if_neg (by simp)]
  split
  · rename_i h; exact h
  · rename_i h
    simp only [ne_eq, Decidable.not_not] at h
    exfalso
    have e1 : ([v, v, v, v] : List Int)[1]?.getD 0 = v := rfl
    rw [e1] at h
    unfold kind at h
    rw [if_neg (by simp)] at h
    split at h
    · omega
    · split at h
      · rename_i _ hh
        unfold header at hh
        split at hh
        · cases hh
        · simp only [List.cons.injEq] at hh; omega
      · omega
theorem found_rep (v : Int) {m i : Nat} (h : i < m) : (foundBks (List.replicate (64 * m) v) m)[i]? = some (bRep v) := by
  rw [foundBks_at h, blk_rep v h]; rfl

/-- the first j are v, the others 0 -/
def filled (K j : Nat) (v : Int) : List Int := List.replicate j v ++ List.replicate (K - j) 0
theorem filled_len {K j : Nat} (v : Int) (h : j ≤ K) : (filled K j v).length = K := by unfold filled; simp; omega
theorem filled_set {K j : Nat} (v : Int) (h : j < K) : ((filled K j v).map uv).set j (.int .u32 v) = (filled K (j + 1) v).map uv := by
  show ((filled K j v).map uv).set j (uv v) = _
  rw [← List.map_set]
  congr 1
  unfold filled
  obtain ⟨m, hm⟩ : ∃ m, K - j = m + 1 := ⟨K - j - 1, by omega⟩
  rw [List.set_append_right _ _ (by simp), hm, List.replicate_succ, List.length_replicate, Nat.sub_self, List.set_cons_zero, show K - (j + 1) = m by omega, List.replicate_succ']
  simp

set_option maxRecDepth 100000 in
theorem scanSizes_walk (t v : Int) (w : World) (ht : 0 ≤ t ∧ t < 65536) (hv : 0 ≤ v ∧ v < 4294967296) :
    Calls Try.prog 13 #[.int .u16 t, .int .u32 v] w fun e w' => e = .returned (.bool true) ∧ Below w.heap.size w w' := by
  obtain ⟨K, hK⟩ : ∃ K : Nat, t.toNat % 200 = K := ⟨_, rfl⟩
  have hKl : K < 200 := by omega
  have hKt : t % 200 = (K : Int) := by omega
  have HK := Lib.hid hK; clear hK
  have Hi66 : Hid ((Try.prog.info? 68).map (·.size) = some 66) := by unfold Hid; kernel_rfl
  have Hi1 : Hid ((Try.prog.info? 22).map (·.size) = some 1) := by unfold Hid; kernel_rfl
  go_enter Try.func13, Try.ntmps13
  go_wp2_with fail
  refine (alive06_any _).mono ?_
  rintro e w1 ⟨rfl, hb1⟩
  have HB1 := Lib.hid hb1; clear hb1
  have hz0 : (Try.prog.info? 22).bind (·.zero) = some (.int .u32 0) := by kernel_rfl
  have Hz0 := Lib.hid hz0; clear hz0
  have HKt := Lib.hid hKt; clear hKt
  go_wp2_with (first
    | (rw [HKt.out]; refine mk_one rfl rfl rfl rfl Try.underlying26 Hz0.out Hi1.out (by kernel_rfl) rfl (by omega) ?_; intro w2 hn2
       have HA2 : Hid (At w2 w1.heap.size ((filled K 0 v).map uv) 22) := Lib.hid (by have h := hn2.to; unfold filled; simpa [uv] using h)
       have HB2 := Lib.hid (HB1.out.trans (hn2.below HB1.out.size)); clear hn2)
    | fail)
  have Hgb := Lib.hid HB1.out.size
  generalize w1.heap.size = g at *
  go_loopw [7, 21] (fun _ i wr => ∃ j : Nat, j ≤ K ∧ i = .int .i64 j ∧ At wr g ((filled K j v).map uv) 22 ∧ Below w.heap.size w wr) (fun _ i _ => K - (intOf i).toNat)
  case atStart => exact ⟨0, by omega, rfl, HA2.out, HB2.out⟩
  case round =>
    clear HA2 HB2
    obtain ⟨wo, rfl⟩ : ∃ wo : World, wo = wr := ⟨_, rfl⟩
    obtain ⟨j, hj, rfl, hA, hB⟩ := hrel
    have HA := Lib.hid hA; have HB := Lib.hid hB; clear hA hB
    by_cases hlt : j < K
    · have Hset := Lib.hid (filled_set v hlt)
      have Hlen := Lib.hid (filled_len v hj)
      go_wp2_with (first
        | (refine st_cell (v := .int .u32 v) rfl rfl rfl rfl rfl HA.out Hi1.out (by rw [List.length_map, Hlen.out]; omega) rfl ?_; intro w3 hu3
           have HA3 : Hid (At w3 g ((filled K (j + 1) v).map uv) 22) := Lib.hid (by have h := hu3.to; rwa [Hset.out] at h)
           have HB3 := Lib.hid (HB.out.trans (hu3.below Hgb.out)); clear hu3)
        | fail)
      exact ⟨⟨j + 1, by omega, by go_num, HA3.out, HB3.out⟩, by simp only [intOf]; omega⟩
    · obtain rfl : j = K := by omega
      have hfl : filled j j v = List.replicate j v := by unfold filled; simp
      rw [hfl] at HA
      have Hlt : Hid (g < wo.heap.size) := Lib.hid HA.out.lt
      clear hfl
      by_cases hf : j % 64 ≠ 0 ∨ j / 64 < 1 ∨ 64 < j / 64
      · by_cases h0 : j = 0
        · subst h0
          have Hf := Lib.hid hf; clear hf
          go_wp2_with fail
          refine (scanWords_form _ _ _ _ (by omega) Hf.out).mono ?_
          rintro e w4 ⟨rfl, rfl⟩
          go_wp2_with fail
          go_ret
          exact ⟨rfl, HB.out⟩
        · have h0b : ((j : Int) == 0) = false := by rw [beq_eq_false_iff_ne]; omega
          have hrb : ((j : Int) % 64 != 0) = true := by rw [bne_iff_ne]; omega
          have Hf := Lib.hid hf; clear hf h0
          go_wp2_with fail
          refine (scanWords_form _ _ _ _ (by omega) Hf.out).mono ?_
          rintro e w4 ⟨rfl, rfl⟩
          go_wp2_with fail
          go_ret
          exact ⟨rfl, HB.out⟩
      · obtain ⟨m, hm⟩ : ∃ m, j = 64 * m := ⟨j / 64, by omega⟩
        have hm1 : 1 ≤ m := by omega
        have hm2 : m ≤ 3 := by omega
        have h0b : ((j : Int) == 0) = false := by rw [beq_eq_false_iff_ne]; omega
        have hrb : ((j : Int) % 64 != 0) = false := by rw [bne_eq_false_iff_eq]; omega
        have hjq : (j : Int) / 64 = (m : Int) := by omega
        have Hm := Lib.hid hm; clear hm hf
        have hrr : ∀ x ∈ List.replicate j v, 0 ≤ x ∧ x < 4294967296 := fun x hx => by rw [List.eq_of_mem_replicate hx]; exact hv
        have Hrr := Lib.hid hrr; clear hrr
        have hs : Sl wo (.slice (some ⟨g, 0, none⟩) j j) (List.replicate j v) := sl_at HA.out (by simp) (Nat.le_refl _) (by omega) (by omega) (by rw [List.take_of_length_le (by simp)]) Hrr.out
        have Hs := Lib.hid hs; clear hs
        have hq := bk_neq_our (bRep v) (bRep v)
        have hne : ((bRep v).h == 1) = false := by rw [beq_eq_false_iff_ne]; exact bRep_h v
        have hok : (bRep v).ok := fBk_ok fun x hx => by rw [List.eq_of_mem_replicate hx]; exact hv
        have hall : ∀ i : Nat, i < m → (foundBks (List.replicate j v) m)[i]? = some (bRep v) := fun i hi => by have h := found_rep v hi; rwa [← Hm.out] at h
        have Hall := Lib.hid hall; have Hok := Lib.hid hok; have Hq := Lib.hid hq; have Hne := Lib.hid hne; clear hall hok hq hne
        have Hfl := Lib.hid (foundBks_length (List.replicate j v) m)
        generalize bRep v = x at *
        go_wp2_with fail
        have hw := scanWords_any g 0 j m (List.replicate j v) wo (by rw [List.length_replicate]; exact Hm.out) ⟨hm1, by omega⟩ (by simp) (by omega) Hlt.out (by rw [List.length_replicate]; exact Hs.out)
        rw [List.length_replicate] at hw
        refine hw.mono ?_
        clear hw
        rintro e w4 ⟨⟨v4, rfl, ho4⟩, hb4⟩
        have hl4 := bl_found ho4 Hrr.out
        obtain ⟨a4, c4, rfl⟩ := hl4.shape
        have HL4 := Lib.hid hl4
        have HB4 := Lib.hid (HB.out.trans (hb4.mono HB.out.size))
        rw [Hfl.out]
        clear ho4 hb4 hl4
        go_wp2_with fail
        go_loopw [11, 50] (fun _ i wr => ∃ k : Nat, k ≤ m ∧ i = .int .i64 k ∧ Below w4.heap.size w4 wr) (fun _ i _ => m - (intOf i).toNat)
        case atStart => exact ⟨0, by omega, rfl, Below.refl _ _⟩
        case round =>
          obtain ⟨k, hk, rfl, hB⟩ := hrel
          have HB := Lib.hid hB; clear hB
          by_cases hlt2 : k < m
          · obtain ⟨-, b1, off1, cap1, hv1, hbw, hrg⟩ := HL4.out.block (Hall.out k hlt2)
            simp only [Value.slice.injEq] at hv1
            obtain ⟨rfl, -, rfl⟩ := hv1
            obtain ⟨-, b2, off2, cap2, hv2, hbw2, hrg2⟩ := HL4.out.block (Hall.out 0 (by omega))
            simp only [Value.slice.injEq, Option.some.injEq, Addr.mk.injEq] at hv2
            obtain ⟨⟨rfl, rfl, -⟩, -, rfl⟩ := hv2
            have hrg0 := hrg2
            simp only [Nat.zero_mul, Nat.add_zero] at hrg0
            have Hrg := Lib.hid hrg; have Hrg0 := Lib.hid hrg0
            clear hrg hrg2 hrg0
            have Hxl := Lib.hid (Bk.cells_length Hok.out)
            go_wp2_with (first
              | (refine ld_rng rfl rfl rfl (Hrg.out _ HB.out) Try.underlying68 rfl (by rw [Hxl.out]; exact Hi66.out) ?_)
              | (refine al_new rfl rfl (zero_block _) ?_; intro w5 hn5
                 have HB5 := Lib.hid (HB.out.trans (hn5.below HB.out.size)); have HA5 : Hid (At w5 wr.heap.size bk0 68) := Lib.hid hn5.to; clear hn5)
              | (refine st_agg rfl rfl rfl rfl HA5.out 66 Hi66.out Hxl.out (by decide) Bk.one ?_; intro w6 hu6
                 have HA6 : Hid (At w6 wr.heap.size x.cells 68) := Lib.hid (by have h := hu6.to; rw [List.take_zero, List.nil_append, show bk0.drop (0 + 66) = [] from rfl, List.append_nil] at h; exact h)
                 have HB6 := Lib.hid (HB5.out.trans (hu6.below HB.out.size)); clear hu6 HB5 HA5)
              | fail)
            have hc0 : w6.cell? ⟨wr.heap.size, 0, none⟩ = some (.int .i64 x.h) := HA6.out.cell 0
            have R1 := Lib.hid (bk_load Hok.out HA6.out.rng Try.underlying68 rfl Hi66.out)
            have R2 := Lib.hid (bk_load Hok.out (Hrg0.out _ HB6.out) Try.underlying68 rfl Hi66.out)
            have hqq := fun W => Hq.out Hok.out Hok.out W
            simp only [decide_true, Bool.not_true] at hqq
            have Hqq := Lib.hid hqq; clear hqq
            have h0m : 0 < m := by omega
            refine wp_region_quiet_lit (by kernel_rfl) (by kernel_rfl) ?_
            refine wpQuiet_ld rfl rfl rfl (by rintro w' ⟨m', rfl⟩; exact R1.out _) ?_
            iterate 2 (first | ((with_reducible refine wpQuiet_step (fun K' hK' => ?_)); go_simp; (with_reducible refine hK' _ ?_); clear hK' K') | ((with_reducible refine wpQuiet_skip ?_ ?_); focus rfl))
            refine wpQuiet_ld rfl rfl rfl (by rintro w' ⟨m', rfl⟩; exact R2.out _) ?_
            refine wpQuiet_eqs rfl rfl rfl rfl Try.eqGuardType68 Hqq.out ?_
            have hne := Hne.out
            iterate 5 (first | ((with_reducible refine wpQuiet_step (fun K' hK' => ?_)); go_simp; (with_reducible refine hK' _ ?_); clear hK' K') | ((with_reducible refine wpQuiet_skip ?_ ?_); focus rfl))
            refine wpQuiet_nil ?_
            rintro w' ⟨nq, rfl⟩
            have HB7 := Lib.hid (bel_drewN HB6.out nq)
            clear hne hc0
            go_wp2_with fail
            exact ⟨⟨k + 1, by omega, by go_num, HB7.out⟩, by simp only [intOf]; omega⟩
          · obtain rfl : k = m := by omega
            go_wp2_with fail
            go_ret
            exact ⟨rfl, HB4.out.trans (HB.out.mono HB4.out.size)⟩

namespace scanSizes
set_option maxRecDepth 100000 in
theorem owed : Owed Try.prog 13 Try.f13 := by
  intro H enc W base args ds p hval hA
  rw [Try.params13] at hval hA
  obtain ⟨hl, _⟩ := trodAll_len _ _ _ _ hA
  obtain ⟨v0, v1, rfl⟩ : ∃ v0 v1, args = #[v0, v1] := by
    obtain ⟨l⟩ := args
    match l, hl with
    | [v0, v1], _ => exact ⟨v0, v1, rfl⟩
  obtain ⟨_, _, _, _, h0, r0⟩ := trodAll_head (v := v0) (vs := [v1]) hA
  obtain ⟨_, _, _, _, h1, r1⟩ := trodAll_head (v := v1) (vs := []) r0
  clear r1
  have hv0 := hval 0 82 v0 rfl rfl
  have hv1 := hval 1 22 v1 rfl rfl
  clear hval hA
  obtain ⟨t, rfl, ht⟩ := open_u16 Try.underlying82 hv0
  obtain ⟨v, rfl, hv⟩ := open_u32 Try.underlying22 hv1
  exact scanSizes_walk t v W ht hv

theorem own : ownKnob Try.prog.godebug = none := by kernel_rfl
theorem laidOut : laidOutB Try.prog = true := by kernel_rfl

set_option maxRecDepth 100000 in
theorem lifted (os : Os) (started : os.Started) (H : Type) (enc : TypeId × Value → H) :
    ReturnsInHanded {} Try.checked os 13 .any (Rows.scanSizesSpec.pre6 enc Try.prog Try.f13 Rows.scanSizesRow.domain false) (Rows.scanSizesSpec.post enc Try.prog Try.f13 false true false false) := by
  refine law_handed (C := Try.checked) (tb := 4) own started (by kernel_rfl) Try.func13
    (ChangeSpec.witness6 (enc := enc) (C := Try.checked) false ⟨#[], #[.int .u16 0, .int .u32 0], []⟩ 8 (by kernel_rfl) (by kernel_rfl) (by kernel_rfl) (by kernel_rfl))
    rfl Try.underlying4 rfl ?_ laidOut (of_decide_eq_true (by kernel_rfl)) owed
  intro ds hl
  match ds, hl with
  | [a, b], _ => exact ⟨rfl, rfl, rfl⟩

theorem over : Rows.scanSizesRow.holds Try.pinned (OpenSpec.ofChange Rows.scanSizesSpec) :=
  OpenClaim.holds_of_wide 13 Try.f13 rfl rfl rfl rfl rfl rfl rfl ⟨rfl, rfl, rfl, rfl, rfl⟩ rfl rfl rfl rfl rfl (by kernel_rfl) Try.func13 (by kernel_rfl)
    (of_decide_eq_true (by kernel_rfl)) (by unfold Func.isWrapper; first | (rw [if_pos (by decide +kernel)]; kernel_rfl) | (rw [if_neg (by decide +kernel)]; exact ⟨rfl, rfl⟩))
    (fun os started H enc _ => lifted os started H enc)

theorem proved : Rows.ScanSizesSaid := over
end scanSizes
#print axioms scanSizes.proved
end Go.Proofs.Ytcgjppdjjhigoaa
