/- The statement ScanNext: from the page that may be written next on all are free, and ahead of it one is not. No condition. -/
import Derived.Test.YtcgjppdjjhigoaaScanS
namespace Go.Proofs.Ytcgjppdjjhigoaa
open Go.ChangeShapes Go.WideShapes Go.ChangeAt Go.RowKit
set_option maxHeartbeats 4000000

/-- what Next tells -/
theorem next_cases (b : Bk) : (b.h ≠ 1 ∧ b.next = -1) ∨ (b.h = 1 ∧ ∃ k : Nat, k ≤ 7 ∧ b.next = k ∧ (∀ x : Fin 8, k ≤ x.1 → kvOf b x = 0) ∧ (∀ i : Fin 8, i.1 + 1 = k → kvOf b i ≠ 0)) ∨ (b.h = 1 ∧ b.next = -1 ∧ kvOf b 7 ≠ 0) := by
  by_cases hh : b.h = 1
  · have go : ∀ k : Nat, k ≤ 8 → freeFrom (kvOf b) k → (b.h = 1 ∧ ∃ k : Nat, k ≤ 7 ∧ b.next = k ∧ (∀ x : Fin 8, k ≤ x.1 → kvOf b x = 0) ∧ (∀ i : Fin 8, i.1 + 1 = k → kvOf b i ≠ 0)) ∨ (b.h = 1 ∧ b.next = -1 ∧ kvOf b 7 ≠ 0) := by
      intro k
      induction k with
      | zero =>
        intro _ hf
        refine .inl ⟨hh, 0, by omega, ?_, hf, fun i h => absurd h (by omega)⟩
        unfold Bk.next; rw [hh]; exact next_all hf
      | succ k ih =>
        intro hk hf
        by_cases h0 : kvOf b ⟨k, by omega⟩ = 0
        · exact ih (by omega) (freeFrom_pred hf (by omega) h0)
        · have hn := next_at hf (by omega) h0
          by_cases h7 : k = 7
          · subst h7
            rw [if_pos rfl] at hn
            exact .inr ⟨hh, by unfold Bk.next; rw [hh]; exact hn, h0⟩
          · rw [if_neg h7] at hn
            refine .inl ⟨hh, k + 1, by omega, by unfold Bk.next; rw [hh, hn]; omega, hf, fun i hi => ?_⟩
            have : i = ⟨k, by omega⟩ := Fin.ext (by show i.1 = k; omega)
            rw [this]; exact h0
    exact .inr (go 8 (by omega) (freeFrom_8 _))
  · exact .inl ⟨hh, by unfold Bk.next nextOf; rw [if_neg hh]⟩

set_option maxRecDepth 100000 in
theorem scanNext_walk (x : Bk) (hx : x.ok) (w : World) :
    Calls Try.prog 14 #[.agg x.cells.toArray] w fun e w' => e = .returned (.bool true) ∧ Below w.heap.size w w' := by
  have Hi66 : Hid ((Try.prog.info? 68).map (·.size) = some 66) := by unfold Hid; kernel_rfl
  have Hj66 : Hid ((Try.prog.info? 72).map (·.size) = some 66) := by unfold Hid; kernel_rfl
  have hnx := next_bk x hx; have hem := empty_bk x hx
  have hxl := Bk.cells_length hx
  have Hx := Lib.hid hx; have Hxl := Lib.hid hxl; clear hx hxl
  have Hnx := Lib.hid hnx; have Hem := Lib.hid hem; clear hnx hem
  have hcases := next_cases x
  obtain ⟨nx, hn⟩ : ∃ nx, x.next = nx := ⟨_, rfl⟩
  rw [hn] at Hnx Hem hcases
  clear hn
  have hkv : ∀ i : Fin 8, x.cells[2 + i.1]? = some (.int .i64 (kvOf x i)) := by
    intro i
    show (bkCells x.h x.c x.ks x.ps)[2 + i.1]? = _
    unfold bkCells
    rw [List.append_assoc, List.getElem?_append_right (by simp), List.getElem?_append_left (by simp [Hx.out.ks])]
    simp [kvOf_at Hx.out i]
  have Hkv := Lib.hid hkv; clear hkv
  have hlt : -9223372036854775808 ≤ nx ∧ nx ≤ 7 := by
    rcases hcases with ⟨_, rfl⟩ | ⟨_, k, hk, rfl, _⟩ | ⟨_, rfl, _⟩ <;> omega
  have Hcs := Lib.hid hcases; clear hcases
  go_enter Try.func14, Try.ntmps14
  go_wp2_with (first
    | (refine bx_new rfl rfl rfl ?_; intro w0 hn0; have HA0 : Hid (At w0 w.heap.size x.cells 72) := Lib.hid hn0.to; have HB0 := Lib.hid (hn0.below (Nat.le_refl _)); clear hn0)
    | fail)
  refine (alive06_any _).mono ?_
  rintro e w1 ⟨rfl, hb1⟩
  have HA1 := Lib.hid (HA0.out.of_below hb1)
  have HB1 := Lib.hid (HB0.out.trans (hb1.mono HB0.out.size)); clear hb1 HA0 HB0
  go_wp2_with (first
    | (refine ld_agg rfl rfl rfl HA1.out Try.underlying72 rfl 66 Hj66.out (by rw [Hxl.out]; decide) ?_; rw [show ((x.cells.drop 0).take 66) = x.cells by rw [List.drop_zero]; exact List.take_of_length_le (Nat.le_of_eq Hxl.out)])
    | (refine bs_one rfl rfl rfl Try.underlying57 66 Hxl.out Hj66.out (by kernel_rfl) (by decide) (by decide) ?_; intro w2 hn2
       have HB2 := Lib.hid (HB1.out.trans (hn2.below HB1.out.size)); have HA2 : Hid (At w2 w1.heap.size x.cells 72) := Lib.hid hn2.to; clear hn2)
    | fail)
  have hbl : Bl w2 (.slice (some ⟨w1.heap.size, 0, none⟩) 1 1) [x] := .inr ⟨w1.heap.size, 0, 1, rfl, Nat.le_refl 1, by decide, HA2.out.lt, by simpa using Hx.out, fun j hj => by rw [Nat.zero_add, HA2.out.cell]; unfold bksCells; simp⟩
  refine (Theirs_any _ [x] _ hbl (by simp)).mono ?_
  rintro e w3 ⟨⟨v3, rfl, ho3⟩, hb3⟩
  have hl3 := Bl.of_own ho3 (by simpa using Hx.out)
  obtain ⟨_, b, off, cap, rfl, hbw, hrg⟩ := hl3.block (i := 0) (x := x) rfl
  have hrg := hrg w3 (Below.refl _ _)
  rw [Nat.zero_mul, Nat.add_zero] at hrg
  have Hrg := Lib.hid hrg
  have HB3 := Lib.hid (HB2.out.trans (hb3.mono HB2.out.size))
  clear hbl ho3 hl3 hb3 hrg HA2 HB2 HA1 HB1
  go_wp2_with (first
    | (refine ld_rng rfl rfl rfl Hrg.out Try.underlying68 rfl (by rw [Hxl.out]; exact Hi66.out) ?_)
    | (refine al_new rfl rfl (zero_block _) ?_; intro w4 hn4
       have HB4 := Lib.hid (HB3.out.trans (hn4.below HB3.out.size)); have HA4 : Hid (At w4 w3.heap.size bk0 68) := Lib.hid hn4.to; clear hn4)
    | (refine st_agg rfl rfl rfl rfl HA4.out 66 Hi66.out Hxl.out (by decide) Bk.one ?_; intro w5 hu5
       have HA5 : Hid (At w5 w3.heap.size x.cells 68) := Lib.hid (by have h := hu5.to; rw [List.take_zero, List.nil_append, show bk0.drop (0 + 66) = [] from rfl, List.append_nil] at h; exact h)
       have HB5 := Lib.hid (HB4.out.trans (hu5.below HB3.out.size)); clear hu5 HB4 HA4)
    | (refine ld_agg rfl rfl rfl HA5.out Try.underlying68 rfl 66 Hi66.out (by rw [Hxl.out]; decide) ?_; rw [show ((x.cells.drop 0).take 66) = x.cells by rw [List.drop_zero]; exact List.take_of_length_le (Nat.le_of_eq Hxl.out)])
    | fail)
  refine (Hnx.out _).mono ?_
  rintro e w6 ⟨rfl, hb6⟩
  have HA6 := Lib.hid (HA5.out.of_below hb6); have HB6 := Lib.hid (HB5.out.trans (hb6.mono HB5.out.size))
  clear hb6 HA5 HB5
  have hcell : ∀ j, w6.cell? ⟨w3.heap.size, j, none⟩ = x.cells[j]? := HA6.out.cell
  have c0 : w6.cell? ⟨w3.heap.size, 0, none⟩ = some (.int .i64 x.h) := hcell 0
  have Hcell := Lib.hid hcell; clear hcell
  rcases Hcs.out with ⟨h1, rfl⟩ | ⟨h1, k, hk, rfl, hfr, hne⟩ | ⟨h1, rfl, h7⟩
  · have hb1 : (x.h != 1) = true := by simpa using h1
    clear h1
    go_wp2_with (first
      | (refine ld_agg_on rfl rfl rfl HA6.out Try.underlying68 rfl 66 Hi66.out (by rw [Hxl.out]; decide) ?_; rw [show ((x.cells.drop 0).take 66) = x.cells by rw [List.drop_zero]; exact List.take_of_length_le (Nat.le_of_eq Hxl.out)])
      | (go_at_call 39; refine (Hem.out _).mono ?_; rintro e w7 ⟨rfl, hb7⟩
         have c0 : w7.cell? ⟨w3.heap.size, 0, none⟩ = some (.int .i64 x.h) := (HA6.out.of_below hb7).cell 0
         have HB7 := Lib.hid (HB6.out.trans (hb7.mono HB6.out.size)); clear hb7)
      | fail)
    go_ret
    exact ⟨rfl, HB7.out⟩
  · rw [h1] at c0
    have Hk := Lib.hid hk
    have H1 := Lib.hid h1; clear h1
    have Hfr := Lib.hid hfr; have Hne := Lib.hid hne; clear hfr hne
    have k1 : decide ((k : Int) < -1) = false := by simp only [decide_eq_false_iff_not]; omega
    have k5 : k ≤ 8 := by omega
    have k6 : (k : Int) ≤ 8 := by omega
    have k2 : decide ((7 : Int) < (k : Int)) = false := by simp only [decide_eq_false_iff_not]; omega
    have k4 : (k : Int).toNat = k := by omega
    go_wp2_with (first
      | (refine ld_agg_on rfl rfl rfl HA6.out Try.underlying68 rfl 66 Hi66.out (by rw [Hxl.out]; decide) ?_; rw [show ((x.cells.drop 0).take 66) = x.cells by rw [List.drop_zero]; exact List.take_of_length_le (Nat.le_of_eq Hxl.out)])
      | (go_at_call 39; refine (Hem.out _).mono ?_; rintro e w7 ⟨rfl, hb7⟩
         have HA7 := Lib.hid (HA6.out.of_below hb7)
         have c0 : w7.cell? ⟨w3.heap.size, 0, none⟩ = some (.int .i64 1) := by have h := HA7.out.cell 0; rw [h]; rw [← H1.out]; rfl
         have HB7 := Lib.hid (HB6.out.trans (hb7.mono HB6.out.size)); clear hb7)
      | fail)
    have Hkv7 : Hid (∀ i : Fin 8, w7.cell? ⟨w3.heap.size, 2 + i.1, none⟩ = some (.int .i64 (kvOf x i))) := Lib.hid fun i => (HA7.out.cell _).trans (Hkv.out i)
    have HK8 := Lib.hid k5; clear k5 k6 c0 k1 k2
    go_loop [6, 53] (fun _ i => ∃ j : Nat, j ≤ 8 - k ∧ i = .int .i64 j) (fun _ i => 8 - k - (intOf i).toNat)
    case atStart => exact ⟨0, by omega, rfl⟩
    case round =>
      obtain ⟨j, hj, rfl⟩ := hrel
      by_cases hlt : j < 8 - k
      · have hz := Hfr.out ⟨k + j, by omega⟩ (by show k ≤ k + j; omega)
        have hc := Hkv7.out ⟨k + j, by omega⟩
        rw [hz] at hc
        have hc' : w7.cell? ⟨w3.heap.size, 2 + k + j, none⟩ = some (.int .i64 0) := by rw [Nat.add_assoc]; exact hc
        clear hz hc
        go_wp2_with fail
        exact ⟨⟨j + 1, by omega, by go_num⟩, by simp only [intOf]; omega⟩
      · by_cases hk0 : k = 0
        · have h0b : ((k : Int) == 0) = true := by simp; omega
          have Hk0 := Lib.hid hk0; clear hk0
          go_wp2_with fail
          go_ret
          exact ⟨rfl, HB7.out⟩
        · have h0b : ((k : Int) == 0) = false := by simp; omega
          have hne := Hne.out ⟨k - 1, by omega⟩ (by show k - 1 + 1 = k; omega)
          have hc := Hkv7.out ⟨k - 1, by omega⟩
          have hnb : (kvOf x ⟨k - 1, by omega⟩ != 0) = true := by simpa using hne
          have hk1 : ((k : Int) - 1).toNat = k - 1 := by omega
          have hk2 : (1 : Int) ≤ k := by omega
          have hk3 : (k : Int) - 1 < 8 := by omega
          clear hne hk0
          go_wp2_with fail
          go_ret
          exact ⟨rfl, HB7.out⟩
  · have c9 : w6.cell? ⟨w3.heap.size, 9, none⟩ = some (.int .i64 (kvOf x 7)) := (HA6.out.cell 9).trans (Hkv.out 7)
    rw [h1] at c0
    have H1 := Lib.hid h1
    have h7b : (kvOf x 7 != 0) = true := by simpa using h7
    clear h1 h7
    go_wp2_with (first
      | (refine ld_agg_on rfl rfl rfl HA6.out Try.underlying68 rfl 66 Hi66.out (by rw [Hxl.out]; decide) ?_; rw [show ((x.cells.drop 0).take 66) = x.cells by rw [List.drop_zero]; exact List.take_of_length_le (Nat.le_of_eq Hxl.out)])
      | (go_at_call 39; refine (Hem.out _).mono ?_; rintro e w7 ⟨rfl, hb7⟩
         have HA7 := Lib.hid (HA6.out.of_below hb7)
         have c0 : w7.cell? ⟨w3.heap.size, 0, none⟩ = some (.int .i64 1) := by have h := HA7.out.cell 0; rw [h]; rw [← H1.out]; rfl
         have c9 : w7.cell? ⟨w3.heap.size, 9, none⟩ = some (.int .i64 (kvOf x 7)) := (HA7.out.cell 9).trans (Hkv.out 7)
         have HB7 := Lib.hid (HB6.out.trans (hb7.mono HB6.out.size)); clear hb7)
      | fail)
    go_ret
    exact ⟨rfl, HB7.out⟩

namespace scanNext
set_option maxRecDepth 100000 in
theorem owed : Owed Try.prog 14 Try.f14 := by
  intro H enc W base args ds p hval hA
  rw [Try.params14] at hval hA
  obtain ⟨hl, _⟩ := trodAll_len _ _ _ _ hA
  obtain ⟨v0, rfl⟩ : ∃ v0, args = #[v0] := by
    obtain ⟨l⟩ := args
    match l, hl with
    | [v0], _ => exact ⟨v0, rfl⟩
  obtain ⟨_, _, _, _, h0, r0⟩ := trodAll_head (v := v0) (vs := []) hA
  clear r0
  have hv0 := hval 0 72 v0 rfl rfl
  clear hval hA
  obtain ⟨cs, rfl, hc⟩ := open_flat (ks := bkKinds) Try.underlying72 rfl rfl (by kernel_rfl) (by kernel_rfl) hv0
  obtain ⟨b, rfl, hb⟩ := fit_bk hc
  exact scanNext_walk b hb W

theorem own : ownKnob Try.prog.godebug = none := by kernel_rfl
theorem laidOut : laidOutB Try.prog = true := by kernel_rfl

set_option maxRecDepth 100000 in
theorem lifted (os : Os) (started : os.Started) (H : Type) (enc : TypeId × Value → H) :
    ReturnsInHanded {} Try.checked os 14 .any (Rows.scanNextSpec.pre6 enc Try.prog Try.f14 Rows.scanNextRow.domain false) (Rows.scanNextSpec.post enc Try.prog Try.f14 false true false false) := by
  refine law_handed (C := Try.checked) (tb := 4) own started (by kernel_rfl) Try.func14
    (ChangeSpec.witness6 (enc := enc) (C := Try.checked) false ⟨#[], #[.agg bk0.toArray], []⟩ 8 (by kernel_rfl) (by kernel_rfl) (by kernel_rfl) (by kernel_rfl))
    rfl Try.underlying4 rfl ?_ laidOut (of_decide_eq_true (by kernel_rfl)) owed
  intro ds hl
  match ds, hl with
  | [a], _ => exact ⟨rfl, rfl, rfl⟩

theorem over : Rows.scanNextRow.holds Try.pinned (OpenSpec.ofChange Rows.scanNextSpec) :=
  OpenClaim.holds_of_wide 14 Try.f14 rfl rfl rfl rfl rfl rfl rfl ⟨rfl, rfl, rfl, rfl, rfl⟩ rfl rfl rfl rfl rfl (by kernel_rfl) Try.func14 (by kernel_rfl)
    (of_decide_eq_true (by kernel_rfl)) (by unfold Func.isWrapper; first | (rw [if_pos (by decide +kernel)]; kernel_rfl) | (rw [if_neg (by decide +kernel)]; exact ⟨rfl, rfl⟩))
    (fun os started H enc _ => lifted os started H enc)

theorem proved : Rows.ScanNextSaid := over
end scanNext
#print axioms scanNext.proved
end Go.Proofs.Ytcgjppdjjhigoaa
