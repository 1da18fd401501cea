/- The statement PageBack: pages and counts come back from their words; unlike ones have unlike words. No condition. -/
import Derived.Test.YtcgjppdjjhigoaaLawPageTells
import Derived.Test.YtcgjppdjjhigoaaPagePlain
namespace Go.Proofs.Ytcgjppdjjhigoaa
open Go.ChangeShapes Go.WideShapes Go.ChangeAt Go.RowKit
set_option maxHeartbeats 4000000

theorem page_binop_neq (p q : Pg) (hp : p.ok) (hq : q.ok) (w : World) : (binOp .neq 25 p.val q.val).run Try.prog w = .ok (.bool (!decide (p = q))) w := by
  have h := page_eq p q hp hq w
  simp only [Pg.val] at h ⊢
  rw [run_neq_struct, h]
  rfl

set_option maxRecDepth 100000 in
theorem pageBack_walk (p q : Pg) (n : Int) (hp : p.ok) (hq : q.ok) (hn : u32 n) (w : World) :
    Calls Try.prog 5 #[p.val, q.val, .int .u32 n] w fun e w' => e = .returned (.bool true) ∧ Below w.heap.size w w' := by
  have Hp := Lib.hid hp; have Hq := Lib.hid hq; have Hn := Lib.hid hn
  have Hi25 : Hid ((Try.prog.info? 25).map (·.size) = some 7) := by unfold Hid; kernel_rfl
  have Hwp := Lib.hid (words_any p hp); have Hwq := Lib.hid (words_any q hq)
  have hn1 : 0 ≤ n := hn.1
  have hn2 : n < 4294967296 := hn.2
  clear hp hq hn
  simp only [Pg.val] at Hwp Hwq ⊢
  go_enter Try.func5, Try.ntmps5
  go_wp2_with fail
  refine (alive04_any _).mono ?_
  rintro e w4 ⟨rfl, hb1⟩
  have hA3 : At w4 w.heap.size [.int .u32 p.s, .int .u32 p.q, .bool p.g, .int .u32 p.a, .int .u32 p.b, .int .u32 p.c, .int .u32 p.d] 25 := by
    have := hb1.block w.heap.size (by simp; omega)
    unfold At; rw [this]; exact hp_old (by simp) (hp_new rfl)
  have hA4 : At w4 (w.heap.size + 1) [.int .u32 q.s, .int .u32 q.q, .bool q.g, .int .u32 q.a, .int .u32 q.b, .int .u32 q.c, .int .u32 q.d] 25 := by
    have := hb1.block (w.heap.size + 1) (by simp)
    unfold At; rw [this]; exact hp_new (by simp)
  have HB4 : Hid (Below w.heap.size w w4) := (((Below.refl _ _).alloc (Nat.le_refl _) _).alloc (by simp) _).trans (hb1.mono (by simp; omega))
  clear hb1
  have keepS : ∀ w' : World, Below w4.heap.size w4 w' → (∀ i : Nat, w'.cell? ⟨w.heap.size, i, none⟩ = ([.int .u32 p.s, .int .u32 p.q, .bool p.g, .int .u32 p.a, .int .u32 p.b, .int .u32 p.c, .int .u32 p.d] : List Value)[i]?) ∧ (∀ i : Nat, w'.cell? ⟨w.heap.size + 1, i, none⟩ = ([.int .u32 q.s, .int .u32 q.q, .bool q.g, .int .u32 q.a, .int .u32 q.b, .int .u32 q.c, .int .u32 q.d] : List Value)[i]?) ∧ Below w4.heap.size w4 w' := fun w' hb => ⟨(hA3.of_below hb).cell, (hA4.of_below hb).cell, hb⟩
  have KS := Lib.hid keepS
  have hS0 := keepS w4 (Below.refl _ _)
  have HA3 := Lib.hid hA3; have HA4 := Lib.hid hA4
  clear keepS hA3 hA4
  go_wp2_with fail
  go_region_held3 (fun w' => (∀ i : Nat, w'.cell? ⟨w.heap.size, i, none⟩ = ([.int .u32 p.s, .int .u32 p.q, .bool p.g, .int .u32 p.a, .int .u32 p.b, .int .u32 p.c, .int .u32 p.d] : List Value)[i]?) ∧ (∀ i : Nat, w'.cell? ⟨w.heap.size + 1, i, none⟩ = ([.int .u32 q.s, .int .u32 q.q, .bool q.g, .int .u32 q.a, .int .u32 q.b, .int .u32 q.c, .int .u32 q.d] : List Value)[i]?) ∧ Below w4.heap.size w4 w')
    (first
      | exact KS.out _ ((Below.refl _ _).drew)
      | (go_split_ands; exact KS.out _ (Below.trans (by assumption) (hb.mono (Below.size (by assumption)))))
      | go_keep)
    (first
      | (go_at_call 21; (with_reducible refine (Hwp.out _).mono ?_); rintro e w' ⟨⟨v1, rfl, hv1⟩, hb⟩)
      | (go_at_call 21; (with_reducible refine (Hwq.out _).mono ?_); rintro e w5 ⟨⟨v2, rfl, hv2⟩, hb⟩; have hv1 := hv1.below hb))
  go_split_ands
  have hB5 : Below w4.heap.size w4 w5 := by assumption
  have hA3 := HA3.out.of_below hB5
  have hA4 := HA4.out.of_below hB5
  have HB5 := Lib.hid (HB4.out.trans (hB5.mono HB4.out.size))
  have Hv1 := Lib.hid hv1.sl; have Hv2 := Lib.hid hv2.sl
  clear hB5 KS HA3 HA4 hv1 hv2
  cases hpr : p.right
  · have Hpw := Lib.hid (Pg.words_not hpr)
    have h1 := Hv1.out
    rw [Hpw.out] at h1
    obtain ⟨a1, c1, rfl⟩ := h1.shape
    have Hpr := Lib.hid hpr
    clear h1 hpr
    go_wp2_with fail
    refine (header_any n Hn.out _).mono ?_
    rintro e w6 ⟨⟨v3, rfl, hv3⟩, hb6⟩
    have HB6 := Lib.hid (HB5.out.trans (hb6.mono HB5.out.size))
    clear hb6
    by_cases hn2 : n > 2147483648
    · rw [header_nil.2 hn2] at hv3
      obtain ⟨a3, c3, rfl⟩ := hv3.sl.shape
      go_wp2_with fail
      go_ret
      exact ⟨ret_bool (by simp; try omega), HB6.out⟩
    · obtain ⟨a3, c3, rfl⟩ := hv3.sl.shape
      have hl : (header n).length = 4 := by unfold header; rw [if_neg hn2]; rfl
      rw [hl] at hv3 ⊢
      go_wp2_with fail
      refine (count_any _ _ _ hv3.sl).mono ?_
      rintro e w7 ⟨rfl, hb7⟩
      rw [count_header (by omega)]
      have HB7 := Lib.hid (HB6.out.trans (hb7.mono HB6.out.size))
      clear hb7
      go_wp2_with fail
      go_ret
      exact ⟨rfl, HB7.out⟩
  · have Hpw := Lib.hid (Pg.words_right hpr)
    have Hrd := Lib.hid (rd_words Hp.out hpr)
    have hl : p.words.length = 7 := by rw [Hpw.out]; rfl
    obtain ⟨a1, c1, rfl⟩ := Hv1.out.shape
    rw [hl] at Hv1 ⊢
    have Hpr := Lib.hid hpr
    clear hpr hl
    go_wp2_with fail
    refine (read_any _ _ _ Hv1.out).mono ?_
    rintro e w8 ⟨rfl, hb8⟩
    rw [Hrd.out]
    have HB8 := Lib.hid (HB5.out.trans (hb8.mono HB5.out.size))
    have hA3 := hA3.of_below hb8
    have hA4 := hA4.of_below hb8
    have Hv1 := Lib.hid (Hv1.out.below hb8); have Hv2 := Lib.hid (Hv2.out.below hb8)
    clear hb8
    simp only [Pg.val]
    have hbn := page_binop_neq p p Hp.out Hp.out
    simp only [Pg.val] at hbn
    simp only [decide_true, Bool.not_true] at hbn
    have hc3 := hA3.cell
    have hlt3 := hA3.lt
    have hlt4 := hA4.lt
    cases hqr : q.right
    · have Hqw := Lib.hid (Pg.words_not hqr)
      have h1 := Hv2.out
      rw [Hqw.out] at h1
      obtain ⟨a2, c2, rfl⟩ := h1.shape
      clear h1 hqr
      go_wp2_with fail
      have hN := New.alloc w8 (.cells #[.int .u32 p.s, .int .u32 p.q, .bool p.g, .int .u32 p.a, .int .u32 p.b, .int .u32 p.c, .int .u32 p.d] 28)
      have hA3 := hN.at hA3
      have hA4 := hN.at hA4
      have HB9 := Lib.hid (HB8.out.trans (hN.below HB8.out.size))
      have Hv1 := Lib.hid (Hv1.out.below (hN.below (Nat.le_refl _))); have Hv2 := Lib.hid (Hv2.out.below (hN.below (Nat.le_refl _)))
      clear hN hc3 hlt3 hlt4 HB8 hbn
      generalize (w8.alloc (.cells #[.int .u32 p.s, .int .u32 p.q, .bool p.g, .int .u32 p.a, .int .u32 p.b, .int .u32 p.c, .int .u32 p.d] 28)) = w9 at *
      go_quiet (fail)
      have HB5 := Lib.hid (below_drewN HB9.out nq)
      clear HB9
      go_wp2_with fail
      refine (header_any n Hn.out _).mono ?_
      rintro e w6 ⟨⟨v3, rfl, hv3⟩, hb6⟩
      have HB6 := Lib.hid (HB5.out.trans (hb6.mono HB5.out.size))
      clear hb6
      by_cases hn2 : n > 2147483648
      · rw [header_nil.2 hn2] at hv3
        obtain ⟨a3, c3, rfl⟩ := hv3.sl.shape
        go_wp2_with fail
        go_ret
        exact ⟨ret_bool (by simp; try omega), HB6.out⟩
      · obtain ⟨a3, c3, rfl⟩ := hv3.sl.shape
        have hl : (header n).length = 4 := by unfold header; rw [if_neg hn2]; rfl
        rw [hl] at hv3 ⊢
        go_wp2_with fail
        refine (count_any _ _ _ hv3.sl).mono ?_
        rintro e w7 ⟨rfl, hb7⟩
        rw [count_header (by omega)]
        have HB7 := Lib.hid (HB6.out.trans (hb7.mono HB6.out.size))
        clear hb7
        go_wp2_with fail
        go_ret
        exact ⟨rfl, HB7.out⟩
    · have Hqw := Lib.hid (Pg.words_right hqr)
      have hl2 : q.words.length = 7 := by rw [Hqw.out]; rfl
      obtain ⟨a2, c2, rfl⟩ := Hv2.out.shape
      rw [hl2] at Hv2 ⊢
      have Hqr := Lib.hid hqr
      clear hqr hl2
      go_wp2_with fail
      have hN := New.alloc w8 (.cells #[.int .u32 p.s, .int .u32 p.q, .bool p.g, .int .u32 p.a, .int .u32 p.b, .int .u32 p.c, .int .u32 p.d] 28)
      have hA3 := hN.at hA3
      have hA4 := hN.at hA4
      have HB9 := Lib.hid (HB8.out.trans (hN.below HB8.out.size))
      have Hv1 := Lib.hid (Hv1.out.below (hN.below (Nat.le_refl _))); have Hv2 := Lib.hid (Hv2.out.below (hN.below (Nat.le_refl _)))
      clear hN hc3 hlt3 hlt4 HB8 hbn
      generalize (w8.alloc (.cells #[.int .u32 p.s, .int .u32 p.q, .bool p.g, .int .u32 p.a, .int .u32 p.b, .int .u32 p.c, .int .u32 p.d] 28)) = w9 at *
      have keepS : ∀ w' : World, Below w9.heap.size w9 w' → (∀ i : Nat, w'.cell? ⟨w.heap.size, i, none⟩ = ([.int .u32 p.s, .int .u32 p.q, .bool p.g, .int .u32 p.a, .int .u32 p.b, .int .u32 p.c, .int .u32 p.d] : List Value)[i]?) ∧ (∀ i : Nat, w'.cell? ⟨w.heap.size + 1, i, none⟩ = ([.int .u32 q.s, .int .u32 q.q, .bool q.g, .int .u32 q.a, .int .u32 q.b, .int .u32 q.c, .int .u32 q.d] : List Value)[i]?) ∧ Below w9.heap.size w9 w' := fun w' hb => ⟨(hA3.of_below hb).cell, (hA4.of_below hb).cell, hb⟩
      have KS := Lib.hid keepS
      have hS0 := keepS w9 (Below.refl _ _)
      have heq := page_binop p q Hp.out Hq.out
      simp only [Pg.val] at heq
      have Hwe := Lib.hid (ref_words_any _ _ _ _ _ Hv1.out Hv2.out)
      have Hdec : Hid (decide (p.words = q.words) = decide (p = q)) := by
        unfold Hid
        rw [decide_eq_decide]
        exact ⟨words_inj Hp.out Hq.out Hpr.out Hqr.out, fun h => by rw [h]⟩
      rw [Hdec.out] at Hwe
      clear keepS hA3 hA4
      go_region_held3 (fun w' => (∀ i : Nat, w'.cell? ⟨w.heap.size, i, none⟩ = ([.int .u32 p.s, .int .u32 p.q, .bool p.g, .int .u32 p.a, .int .u32 p.b, .int .u32 p.c, .int .u32 p.d] : List Value)[i]?) ∧ (∀ i : Nat, w'.cell? ⟨w.heap.size + 1, i, none⟩ = ([.int .u32 q.s, .int .u32 q.q, .bool q.g, .int .u32 q.a, .int .u32 q.b, .int .u32 q.c, .int .u32 q.d] : List Value)[i]?) ∧ Below w9.heap.size w9 w')
        (first
          | exact KS.out _ ((Below.refl _ _).drew)
          | (go_split_ands; exact KS.out _ (below_drewN (by assumption) _))
          | go_keep)
        (first
          | (go_at_call 20; refine (ref_words_any _ _ _ _ _ (Hv1.out.drewN 1) (Hv2.out.drewN 1)).mono ?_; rintro e w' ⟨rfl, m, rfl⟩; rw [Hdec.out]))
      have HB5 : Hid (Below w.heap.size w (w9.drewN (1 + m))) := below_drewN HB9.out (1 + m)
      clear HB9
      go_wp2_with fail
      refine (header_any n Hn.out _).mono ?_
      rintro e w6 ⟨⟨v3, rfl, hv3⟩, hb6⟩
      have HB6 := Lib.hid (HB5.out.trans (hb6.mono HB5.out.size))
      clear hb6
      by_cases hn2 : n > 2147483648
      · rw [header_nil.2 hn2] at hv3
        obtain ⟨a3, c3, rfl⟩ := hv3.sl.shape
        go_wp2_with fail
        go_ret
        exact ⟨ret_bool (by simp; try omega), HB6.out⟩
      · obtain ⟨a3, c3, rfl⟩ := hv3.sl.shape
        have hl : (header n).length = 4 := by unfold header; rw [if_neg hn2]; rfl
        rw [hl] at hv3 ⊢
        go_wp2_with fail
        refine (count_any _ _ _ hv3.sl).mono ?_
        rintro e w7 ⟨rfl, hb7⟩
        rw [count_header (by omega)]
        have HB7 := Lib.hid (HB6.out.trans (hb7.mono HB6.out.size))
        clear hb7
        go_wp2_with fail
        go_ret
        exact ⟨rfl, HB7.out⟩

namespace pageBack
set_option maxRecDepth 100000 in
theorem owed : Owed Try.prog 5 Try.f5 := by
  intro H enc W base args ds p hval hA
  rw [Try.params5] at hval hA
  obtain ⟨hl, _⟩ := trodAll_len _ _ _ _ hA
  obtain ⟨v0, v1, v2, rfl⟩ : ∃ v0 v1 v2, args = #[v0, v1, v2] := by
    obtain ⟨l⟩ := args
    match l, hl with
    | [v0, v1, v2], _ => exact ⟨v0, v1, v2, rfl⟩
  obtain ⟨_, _, _, _, h0, r0⟩ := trodAll_head (v := v0) (vs := [v1, v2]) hA
  obtain ⟨_, _, _, _, h1, r1⟩ := trodAll_head (v := v1) (vs := [v2]) r0
  obtain ⟨_, _, _, _, h2, r2⟩ := trodAll_head (v := v2) (vs := []) r1
  clear r2
  have hv0 := hval 0 25 v0 rfl rfl
  have hv1 := hval 1 25 v1 rfl rfl
  have hv2 := hval 2 22 v2 rfl rfl
  clear hval hA
  obtain ⟨n, rfl, hn⟩ := open_u32 Try.underlying22 hv2
  obtain ⟨cs, rfl, hc⟩ := open_flat (ts := [22, 22, 4, 22, 22, 22, 22]) (ks := [some .u32, some .u32, none, some .u32, some .u32, some .u32, some .u32]) Try.underlying25 rfl (by kernel_rfl) (by kernel_rfl) (by kernel_rfl) hv0
  obtain ⟨pg, rfl, hp⟩ := fit_page hc
  obtain ⟨cs, rfl, hc⟩ := open_flat (ts := [22, 22, 4, 22, 22, 22, 22]) (ks := [some .u32, some .u32, none, some .u32, some .u32, some .u32, some .u32]) Try.underlying25 rfl (by kernel_rfl) (by kernel_rfl) (by kernel_rfl) hv1
  obtain ⟨qg, rfl, hq⟩ := fit_page hc
  rw [← Pg.val_cells, ← Pg.val_cells]
  exact pageBack_walk pg qg n hp hq hn W

theorem own : ownKnob Try.prog.godebug = none := by kernel_rfl
theorem laidOut : laidOutB Try.prog = true := by kernel_rfl

set_option maxRecDepth 100000 in
theorem lifted (os : Os) (started : os.Started) (H : Type) (enc : TypeId × Value → H) :
    ReturnsInHanded {} Try.checked os 5 .any (Rows.pageBackSpec.pre6 enc Try.prog Try.f5 Rows.pageBackRow.domain false) (Rows.pageBackSpec.post enc Try.prog Try.f5 false true false false) := by
  refine law_handed (C := Try.checked) (tb := 4) own started (by kernel_rfl) Try.func5
    (ChangeSpec.witness6 (enc := enc) (C := Try.checked) false ⟨#[], #[.agg #[.int .u32 0, .int .u32 0, .bool false, .int .u32 0, .int .u32 0, .int .u32 0, .int .u32 0], .agg #[.int .u32 0, .int .u32 0, .bool false, .int .u32 0, .int .u32 0, .int .u32 0, .int .u32 0], .int .u32 0], []⟩ 8 (by kernel_rfl) (by kernel_rfl) (by kernel_rfl) (by kernel_rfl))
    rfl Try.underlying4 rfl ?_ laidOut (of_decide_eq_true (by kernel_rfl)) owed
  intro ds hl
  match ds, hl with
  | [a, b, c], _ => exact ⟨rfl, rfl, rfl⟩

theorem over : Rows.pageBackRow.holds Try.pinned (OpenSpec.ofChange Rows.pageBackSpec) :=
  OpenClaim.holds_of_wide 5 Try.f5 rfl rfl rfl rfl rfl rfl rfl ⟨rfl, rfl, rfl, rfl, rfl⟩ rfl rfl rfl rfl rfl (by kernel_rfl) Try.func5 (by kernel_rfl)
    (of_decide_eq_true (by kernel_rfl)) (by unfold Func.isWrapper; first | (rw [if_pos (by decide +kernel)]; kernel_rfl) | (rw [if_neg (by decide +kernel)]; exact ⟨rfl, rfl⟩))
    (fun os started H enc _ => lifted os started H enc)

theorem proved : Rows.PageBackSaid := over
end pageBack
#print axioms pageBack.proved
end Go.Proofs.Ytcgjppdjjhigoaa
